/- whole.end and whole.walk, with the yield of whole.Parse, which gathers. (under way) -/
import Derived.Test.YtmdgkchphmncpaaDoorW02
namespace Go.Proofs.YtmdgkchphmncpaaDoor
open Go Go.Abs
set_option maxRecDepth 100000

def takeE (e : Evt) (m : Mk) : Mk × List (List UInt8) × Bool × Int := takeP e.1 e.2.1 e.2.2.1 e.2.2.2.1 e.2.2.2.2.1 e.2.2.2.2.2 m

/-! ### Parse's yield -/
abbrev rowsK : EK := .seq .str
noncomputable def gatherSt (r : List (List UInt8)) (out : List (List (List UInt8))) : Store := [.row .str r, .cells [.whole 2], .row rowsK out]
theorem yield_ev (r : List (List UInt8)) (out : List (List (List UInt8))) : (evFn (ctx Tryd.prog G0 []) noL Tryd.f20 [.whole 0, .ptr 1 0] (gatherSt r out)).get =
    cond (decide (out.length + 1 ≤ LIM)) (some (.bool true, [.dead, .cells [.whole 3], .dead, .row rowsK (out ++ [r])])) none := by kernel_rfl
noncomputable def yieldC : Con where
  spec := fun args st => match args, st with
    | [.whole 0, .ptr 1 0], [.row .str r, .cells [.whole 2], .row (.seq .str) out] => .need (decide (out.length + 1 ≤ LIM)) (.ret (.bool true, [.dead, .cells [.whole 3], .dead, .row rowsK (out ++ [r])]))
    | _, _ => .no
  quiet := false
theorem okYield : Con.ok Tryd.prog G0 20 yieldC :=
  loop_spec (l := []) trivial hm Tryd.func20 (by rfl) (by kernel_rfl) fun args st r h => by
    unfold yieldC at h
    dsimp only at h
    split at h
    · rename_i r' out
      obtain ⟨h1, h2⟩ := need_get h
      refine ⟨noL, noL_ok, ?_⟩
      show (evFn (ctx Tryd.prog G0 []) noL Tryd.f20 [.whole 0, .ptr 1 0] (gatherSt r' out)).get = _
      rw [yield_ev, ← ret_get h2, h1]; rfl
    · exact (no_get h).elim

/-! ### end -/
noncomputable def w1 : List (Nat × Con) := [(20, yieldC), (48, closeC), (33, takeC)]
theorem okw1 : AllOK Tryd.prog G0 w1 := ⟨okYield, okClose, okTake, trivial⟩
def mOutSt (m : Mk) (out : List (List (List UInt8))) : Store := [m.cells 1 2, .row (.int .u8) m.fl, .row .str m.rc, .cells [.whole 4], .row rowsK out]
def mOutEnd (m : Mk) (out : List (List (List UInt8))) : Store := [m.cells 5 6, .dead, .dead, .cells [.whole 7], .dead, .row (.int .u8) m.fl, .row .str m.rc, .row rowsK out]
noncomputable def endV (k at' : Int) (m : Mk) (out : List (List (List UInt8))) : Option (AV × Store) := some (.tup [.agg [.int .i64 k, .int .i64 at'], .bool true], mOutEnd m out)
theorem end_ev (u s a : Int) (m : Mk) (out : List (List (List UInt8))) : (evFn (ctx Tryd.prog G0 w1) noL Tryd.f34 [.ptr 0 0, .int .i64 u, .int .i64 s, .int .i64 a, .fn 20 [.ptr 3 0]] (mOutSt m out)).get =
    cond (!decide (u = 0)) (endV 12 a m out) (cond (!decide ((closeP s).2 = 0)) (endV (closeP s).2 a m out)
      (cond (room m) (cond (!decide ((takeE (closeP s).1 m).2.2.2 = 0)) (endV (takeE (closeP s).1 m).2.2.2 a (takeE (closeP s).1 m).1 out)
        (cond (!(takeE (closeP s).1 m).2.2.1) (endV 0 0 (takeE (closeP s).1 m).1 out) (cond (decide (out.length + 1 ≤ LIM)) (endV 0 0 (takeE (closeP s).1 m).1 (out ++ [(takeE (closeP s).1 m).2.1])) none))) none)) := by kernel_rfl

/-- What the end of a text comes to: the fault's kind and place, the maker, the records. -/
def endP (u s a : Int) (m : Mk) (out : List (List (List UInt8))) : Int × Int × Mk × List (List (List UInt8)) :=
  cond (!decide (u = 0)) (12, a, m, out) (cond (!decide ((closeP s).2 = 0)) ((closeP s).2, a, m, out)
    (cond (!decide ((takeE (closeP s).1 m).2.2.2 = 0)) ((takeE (closeP s).1 m).2.2.2, a, (takeE (closeP s).1 m).1, out)
      (0, 0, (takeE (closeP s).1 m).1, cond (takeE (closeP s).1 m).2.2.1 (out ++ [(takeE (closeP s).1 m).2.1]) out)))
def getMO : Store → Option (Mk × List (List (List UInt8)))
  | [a, b, c, .cells [.whole 4], .row (.seq .str) out] => (getMk [a, b, c]).map (·, out)
  | _ => none
theorem getMO_ok {st : Store} {m : Mk} {out : List (List (List UInt8))} (h : getMO st = some (m, out)) : st = mOutSt m out := by
  unfold getMO at h
  split at h
  · obtain ⟨m', h1, h2⟩ := Option.map_eq_some_iff.1 h
    cases h2
    have := getMk_ok h1
    unfold Mk.inSt at this; unfold mOutSt
    simp only [List.cons.injEq, and_true] at this
    rw [this.1, this.2.1, this.2.2]
  · cases h
noncomputable def endC : Con where
  spec := fun args st =>
    match args, getMO st with
    | [.ptr 0 0, .int .i64 u, .int .i64 s, .int .i64 a, .fn 20 [.ptr 3 0]], some (m, out) => .need (room m && decide (out.length + 1 ≤ LIM))
        (.ret (.tup [.agg [.int .i64 (endP u s a m out).1, .int .i64 (endP u s a m out).2.1], .bool true], mOutEnd (endP u s a m out).2.2.1 (endP u s a m out).2.2.2))
    | _, _ => .no
  quiet := false
theorem okEnd : Con.ok Tryd.prog G0 34 endC :=
  loop_spec okw1 hm Tryd.func34 (by rfl) (by kernel_rfl) fun args st r h => by
    unfold endC at h
    dsimp only at h
    split at h
    · rename_i u s a m out hm'
      obtain ⟨h1, h2⟩ := need_get h
      have es := getMO_ok hm'
      simp only [Bool.and_eq_true] at h1
      refine ⟨noL, noL_ok, ?_⟩
      rw [es, end_ev, ← ret_get h2, h1.1, h1.2]
      unfold endP endV
      cases decide (u = 0) <;> cases decide ((closeP s).2 = 0) <;> cases decide ((takeE (closeP s).1 m).2.2.2 = 0) <;> cases (takeE (closeP s).1 m).2.2.1 <;> rfl
    · exact (no_get h).elim

/-! ### walk: the loop -/
noncomputable def cW : Code := Tryd.f19.body.getD .skip
noncomputable def bodyW : Code := (loopAt cW 0).getD .skip
theorem hcW : Tryd.f19.body = some cW := by kernel_rfl
theorem hbW : loopAt cW 0 = some bodyW := by kernel_rfl
noncomputable def w2 : List (Nat × Con) := [(20, yieldC), (33, takeC), (31, utfC), (32, stepC), (34, endC), (28, checkC), (29, newC), (30, stripC)]
theorem okw2 : AllOK Tryd.prog G0 w2 := ⟨okYield, okTake, okUtf, okStep, okEnd, okCheck, okNew, okStrip, trivial⟩
noncomputable abbrev XW : Ctx := ctx Tryd.prog G0 w2
/-- What a walk has. -/
structure Wk where
  u : Int
  s : Int
  m : Mk
  out : List (List (List UInt8))
abbrev D3 : Type := Int × Int × Int
def dCells (d : D3) : List AV := [.int .u8 d.1, .int .u8 d.2.1, .int .i64 d.2.2]
noncomputable def yieldA : AV := .fn 20 [.ptr 0 0]
noncomputable def wSt (d : D3) (w : Wk) (k a : Int) : Store := [.cells [.whole 2], .dead, .row rowsK w.out, .cells (dCells d), w.m.cells 5 6, .row (.int .u8) w.m.fl, .row .str w.m.rc, .cells [.int .i64 k, .int .i64 a]]
noncomputable def SW (d : D3) (t : List UInt8) (first n i : Int) (w : Wk) : St :=
  stOf Tryd.f19.ntmps [2, 3, 4, 11, 15, 16, 17, 51, 52, 8] [.str t, yieldA, .ptr 3 0, .ptr 4 0, .int .i64 first, .int .i64 w.u, .int .i64 w.s, .int .i64 n, .int .i64 i, .ptr 7 0] (wSt d w 0 0)
noncomputable def wEnd (w : Wk) (k a : Int) : Store := [.cells [.whole 2], .dead, .row rowsK w.out, .cells [.int .i64 k, .int .i64 a], w.m.cells 5 6, .row (.int .u8) w.m.fl, .row .str w.m.rc]
noncomputable def OW (t : List UInt8) (w : Wk) (k a : Int) (r : AV) : St :=
  stOf Tryd.f19.ntmps [2, 3, 8, 9, 11, 16, 17] [.str t, yieldA, .ptr 3 0, r, .ptr 4 0, .int .i64 w.u, .int .i64 w.s] (wEnd w k a)
def scanD (d : D3) (s b : Int) : Evt × Int × Int := scanP d.1 d.2.1 d.2.2 s b
/-- A byte behind the mark. -/
noncomputable def wByte (d : D3) (t : List UInt8) (first n i : Int) (w : Wk) (u' b : Int) (T : St → Tr (Ex × St)) : Option (Ex × St) :=
  cond (decide ((scanD d w.s b).2.2 = 0))
    (cond (room w.m) (cond (!decide ((takeE (scanD d w.s b).1 w.m).2.2.2 = 0)) (some (.ret, OW t ⟨u', (scanD d w.s b).2.1, (takeE (scanD d w.s b).1 w.m).1, w.out⟩ (takeE (scanD d w.s b).1 w.m).2.2.2 i (.bool true)))
      (cond (takeE (scanD d w.s b).1 w.m).2.2.1
        (cond (decide (w.out.length + 1 ≤ LIM)) (T (SW d t first n (IntKind.i64.wrap (i + 1)) ⟨u', (scanD d w.s b).2.1, (takeE (scanD d w.s b).1 w.m).1, w.out ++ [(takeE (scanD d w.s b).1 w.m).2.1]⟩)).get none)
        (T (SW d t first n (IntKind.i64.wrap (i + 1)) ⟨u', (scanD d w.s b).2.1, (takeE (scanD d w.s b).1 w.m).1, w.out⟩)).get)) none)
    (cond (!decide ((scanD d w.s b).2.2 = 0)) (some (.ret, OW t ⟨u', (scanD d w.s b).2.1, w.m, w.out⟩ (scanD d w.s b).2.2 i (.bool true)))
      (T (SW d t first n (IntKind.i64.wrap (i + 1)) ⟨u', (scanD d w.s b).2.1, w.m, w.out⟩)).get)
theorem roundW (d : D3) (t : List UInt8) (first n i : Int) (w : Wk) (T : St → Tr (Ex × St)) :
    (evRound XW noL [true, false] bodyW 1 [2, 3, 4, 11, 15, 16, 17, 51, 52, 8] [2, 3, 8, 9, 11, 16, 17] (SW d t first n i w) T).get =
    cond (decide (i < n)) (cond (decide (0 ≤ i)) (atL t i.toNat fun b => cond (decide (0 ≤ w.u) && decide (w.u < 8))
      (cond (!(utfP w.u b.toNat).isSome) (some (.ret, OW t w 3 i (.bool true)))
        (cond (decide (i < first)) (T (SW d t first n (IntKind.i64.wrap (i + 1)) { w with u := (utfP w.u b.toNat).getD 0 })).get
          (cond (decide (0 ≤ i)) (atL t i.toNat fun b' => wByte d t first n i w ((utfP w.u b.toNat).getD 0) b'.toNat T) none))) none) none) (some (.exit 0, OW t w 0 0 .top)) := by kernel_rfl
end Go.Proofs.YtmdgkchphmncpaaDoor
