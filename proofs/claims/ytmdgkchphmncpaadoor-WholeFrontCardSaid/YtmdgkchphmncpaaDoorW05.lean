/- whole.walk with Parse's yield, and whole.Parse: what they do. Conditions: texts of at most 100000 bytes. -/
import Derived.Test.YtmdgkchphmncpaaDoorW04
namespace Go.Proofs.YtmdgkchphmncpaaDoor
open Go Go.Abs
set_option maxRecDepth 100000

/-! ### walk -/
structure Wst where
  d : D3
  w : Wk
  k : Int
  a : Int
def getW : Store → Option Wst
  | [.cells [.whole 2], .dead, .row (.seq .str) out, .cells [.int .u8 d1, .int .u8 d2, .int .i64 d3], .cells [.int .i64 a, .int .i64 b, .int .i64 c, .bool u, .whole 5, .whole 6, .int .i64 bg, .int .i64 ct, .int .i64 wd, .int .i64 sp], .row (.int .u8) fl, .row .str rc, .cells [.int .i64 k, .int .i64 at']] =>
    some ⟨(d1, d2, d3), ⟨0, 0, ⟨a, b, c, u, fl, rc, bg, ct, wd, sp⟩, out⟩, k, at'⟩
  | _ => none
theorem getW_ok {st : Store} {x : Wst} (h : getW st = some x) : st = wSt x.d x.w x.k x.a ∧ x.w.u = 0 ∧ x.w.s = 0 := by
  unfold getW at h
  split at h
  · cases h; exact ⟨rfl, rfl, rfl⟩
  · cases h
noncomputable def specW (vals : List AV) (st : Store) : Tr (Ex × St) :=
  match vals, getW st with
  | [.str t, .fn 20 [.ptr 0 0], .ptr 3 0, .ptr 4 0, .int .i64 first, .int .i64 u, .int .i64 s, .int .i64 n, .int .i64 i, .ptr 7 0], some x =>
    .need (decide (u = 0) && decide (s = 0) && decide (i = 0) && decide (x.k = 0) && decide (x.a = 0) && x.w.m.fl.isEmpty && x.w.m.rc.isEmpty && x.w.out.isEmpty)
      (.need (decide (n = t.length) && decide (t.length ≤ 100000))
        (.br (decide ((wRun x.d first 0 t x.w).1 = 0)) (.ret (.exit 0, OW t (wRun x.d first 0 t x.w).2.2 0 0 .top)) (.ret (.ret, OW t (wRun x.d first 0 t x.w).2.2 (wRun x.d first 0 t x.w).1 (wRun x.d first 0 t x.w).2.1 (.bool true)))))
  | _, _ => .no
theorem specW_ok : LoopOK XW [true, false] bodyW Tryd.f19.ntmps [2, 3, 4, 11, 15, 16, 17, 51, 52, 8] specW := by
  intro vals st r h
  unfold specW at h
  split at h
  · rename_i t first u s n i x hx
    obtain ⟨h1, hA⟩ := need_get h
    obtain ⟨h2, hB⟩ := need_get hA
    obtain ⟨e1, e2, e3⟩ := getW_ok hx
    simp only [Bool.and_eq_true, decide_eq_true_eq, List.isEmpty_iff] at h1 h2
    obtain ⟨⟨⟨⟨⟨⟨⟨rfl, rfl⟩, rfl⟩, hk⟩, ha⟩, hfl⟩, hrc⟩, hout⟩ := h1
    have := loopW x.d t first x.w h2.2 ⟨by omega, by omega, by simp [hfl], by simp [hrc], by simp [hout]⟩
    rw [e1, hk, ha, h2.1]
    unfold SW at this
    rw [e2, e3] at this
    unfold resW at this
    cases hd : decide ((wRun x.d first 0 t x.w).1 = 0) <;> rw [hd] at hB this
    · have e := ret_get (show (Tr.ret (Ex.ret, OW t (wRun x.d first 0 t x.w).2.2 (wRun x.d first 0 t x.w).1 (wRun x.d first 0 t x.w).2.1 (.bool true))).get = some r from hB)
      rw [← e]; exact this
    · have e := ret_get (show (Tr.ret (Ex.exit 0, OW t (wRun x.d first 0 t x.w).2.2 0 0 .top)).get = some r from hB)
      rw [← e]; exact this
  · exact (no_get h).elim
noncomputable def LW : Nat → St → Tr (Ex × St) := loops [(0, loopL [true, false] Tryd.f19.ntmps [2, 3, 4, 11, 15, 16, 17, 51, 52, 8] specW)]
theorem LW_ok : LoopsAt XW LW [true, false] cW 0 := loops_ok ⟨loop_entry (n := 0) hbW specW_ok, trivial⟩

def firstOfT (t : List UInt8) : Int := IntKind.i64.wrap ((t.length : Int) - (cond (marked t) (t.drop 3) t).length)
def wk0 (l : Int × Int × Int × Bool) : Wk := ⟨0, 0, newM l.1 l.2.1 l.2.2.1 l.2.2.2, []⟩
def run0 (d : D3) (l : Int × Int × Int × Bool) (t : List UInt8) : Int × Int × Wk := wRun d (firstOfT t) 0 t (wk0 l)
noncomputable def walkV (k a : Int) (out : List (List (List UInt8))) : Option (AV × Store) := some (.tup [.agg [.int .i64 k, .int .i64 a], .bool true], [.cells [.whole 2], .dead, .row rowsK out])
def dAV (d : D3) : AV := .agg [.int .u8 d.1, .int .u8 d.2.1, .int .i64 d.2.2]
def lAV (l : Int × Int × Int × Bool) : AV := .agg [.int .i64 l.1, .int .i64 l.2.1, .int .i64 l.2.2.1, .bool l.2.2.2]
def endOf (t : List UInt8) (p : Int × Int × Wk) : Int × Int × Mk × List (List (List UInt8)) := endP p.2.2.u p.2.2.s t.length p.2.2.m p.2.2.out
theorem walk_ev (d : D3) (l : Int × Int × Int × Bool) (t : List UInt8) : (evFn XW LW Tryd.f19 [dAV d, lAV l, .str t, yieldA] [.cells [.whole 1], .row rowsK []]).get =
    cond (!decide ((cond (rightD d.1 d.2.1 d.2.2) 0 1 : Int) = 0)) (walkV (cond (rightD d.1 d.2.1 d.2.2) 0 1) 0 [])
      (cond (fitsL l.1 l.2.1 l.2.2.1)
        (cond (decide ((t.length : Int) = t.length) && decide (t.length ≤ 100000))
          (cond (decide ((run0 d l t).1 = 0))
            (cond (room (run0 d l t).2.2.m && decide ((run0 d l t).2.2.out.length + 1 ≤ LIM)) (walkV (endOf t (run0 d l t)).1 (endOf t (run0 d l t)).2.1 (endOf t (run0 d l t)).2.2.2) none)
            (walkV (run0 d l t).1 (run0 d l t).2.1 (run0 d l t).2.2.out)) none)
        (walkV 2 0 [])) := by kernel_rfl

/-- A walk that gathers: the fault's kind and place, the records. -/
def walkP (d : D3) (l : Int × Int × Int × Bool) (t : List UInt8) : Int × Int × List (List (List UInt8)) :=
  cond (!rightD d.1 d.2.1 d.2.2) (1, 0, []) (cond (!fitsL l.1 l.2.1 l.2.2.1) (2, 0, [])
    (cond (decide ((run0 d l t).1 = 0)) ((endOf t (run0 d l t)).1, (endOf t (run0 d l t)).2.1, (endOf t (run0 d l t)).2.2.2) ((run0 d l t).1, (run0 d l t).2.1, (run0 d l t).2.2.out)))
theorem wok0 (l : Int × Int × Int × Bool) : WOK 0 (wk0 l) := ⟨by simp [wk0], by simp [wk0], by simp [wk0, newM], by simp [wk0, newM], by simp [wk0]⟩
theorem wok_run0 (d : D3) (l : Int × Int × Int × Bool) (t : List UInt8) : WOK t.length (run0 d l t).2.2 := by
  have := wok_run d (firstOfT t) t 0 0 (wk0 l) (wok0 l)
  rw [Nat.zero_add] at this; exact this
noncomputable def walkC : Con where
  spec := fun args st => match args, st with
    | [.agg [.int .u8 d1, .int .u8 d2, .int .i64 d3], .agg [.int .i64 a, .int .i64 b, .int .i64 c, .bool u], .str t, .fn 20 [.ptr 0 0]], [.cells [.whole 1], .row (.seq .str) []] =>
      .need (decide (t.length ≤ 100000)) (.ret (.tup [.agg [.int .i64 (walkP (d1, d2, d3) (a, b, c, u) t).1, .int .i64 (walkP (d1, d2, d3) (a, b, c, u) t).2.1], .bool true], [.cells [.whole 2], .dead, .row rowsK (walkP (d1, d2, d3) (a, b, c, u) t).2.2]))
    | _, _ => .no
  quiet := false
theorem okWalk : Con.ok Tryd.prog G0 19 walkC :=
  loop_spec okw2 hm Tryd.func19 hcW (by kernel_rfl) fun args st r h => by
    unfold walkC at h
    dsimp only at h
    split at h
    · rename_i d1 d2 d3 a b c u t
      obtain ⟨h1, h2⟩ := need_get h
      refine ⟨LW, LW_ok, ?_⟩
      have hl : t.length ≤ 100000 := by simpa using h1
      have he := walk_ev (d1, d2, d3) (a, b, c, u) t
      have hk := wok_run0 (d1, d2, d3) (a, b, c, u) t
      have hroom : room (run0 (d1, d2, d3) (a, b, c, u) t).2.2.m = true := room_of hk.fl hk.rc (by omega)
      have hout : decide ((run0 (d1, d2, d3) (a, b, c, u) t).2.2.out.length + 1 ≤ LIM) = true := decide_eq_true (by have := hk.out; unfold LIM; omega)
      rw [h1, hroom, hout, decide_eq_true (rfl : (t.length : Int) = t.length)] at he
      show (evFn XW LW Tryd.f19 [dAV (d1, d2, d3), lAV (a, b, c, u), .str t, yieldA] [.cells [.whole 1], .row rowsK []]).get = _
      rw [he, ← ret_get h2]
      unfold walkP walkV
      cases rightD d1 d2 d3
      · rfl
      · cases fitsL a b c
        · rfl
        · cases decide ((run0 (d1, d2, d3) (a, b, c, u) t).1 = 0) <;> rfl
    · exact (no_get h).elim

/-! ### Parse -/
noncomputable def w3 : List (Nat × Con) := [(19, walkC)]
theorem okw3 : AllOK Tryd.prog G0 w3 := ⟨okWalk, trivial⟩
theorem parse_ev (d : D3) (l : Int × Int × Int × Bool) (t : List UInt8) : (evFn (ctx Tryd.prog G0 w3) noL Tryd.f8 [dAV d, lAV l, .str t] []).get =
    cond (decide (t.length ≤ 100000)) (some (.tup [.whole 0, .agg [.int .i64 (walkP d l t).1, .int .i64 (walkP d l t).2.1]], [.row rowsK (walkP d l t).2.2])) none := by kernel_rfl
noncomputable def parseC : Con where
  spec := fun args st => match args, st with
    | [.agg [.int .u8 d1, .int .u8 d2, .int .i64 d3], .agg [.int .i64 a, .int .i64 b, .int .i64 c, .bool u], .str t], [] =>
      .need (decide (t.length ≤ 100000)) (.ret (.tup [.whole 0, .agg [.int .i64 (walkP (d1, d2, d3) (a, b, c, u) t).1, .int .i64 (walkP (d1, d2, d3) (a, b, c, u) t).2.1]], [.row rowsK (walkP (d1, d2, d3) (a, b, c, u) t).2.2]))
    | _, _ => .no
  quiet := false
theorem okParse : Con.ok Tryd.prog G0 8 parseC :=
  loop_spec okw3 hm Tryd.func8 (by rfl) (by kernel_rfl) fun args st r h => by
    unfold parseC at h
    dsimp only at h
    split at h
    · rename_i d1 d2 d3 a b c u t
      obtain ⟨h1, h2⟩ := need_get h
      refine ⟨noL, noL_ok, ?_⟩
      have he := parse_ev (d1, d2, d3) (a, b, c, u) t
      rw [h1] at he
      rw [← ret_get h2]
      exact he
    · exact (no_get h).elim
end Go.Proofs.YtmdgkchphmncpaaDoor
