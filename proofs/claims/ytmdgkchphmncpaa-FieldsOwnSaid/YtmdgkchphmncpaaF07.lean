/- FieldsWide: the loop, and the law's answer. (under way) -/
import Derived.Test.YtmdgkchphmncpaaF06
namespace Go.Proofs.Ytmdgkchphmncpaa
open Go Go.Abs
set_option maxRecDepth 100000

@[match_pattern] abbrev evK : EK := .pair .bool (.pair .bool (.pair .bool (.pair .bool (.pair .bool (.int .u8)))))
def takeE (e : evK.α) (m : Mk) : Mk × List (List UInt8) × Bool × Int := takeP e.1 e.2.1 e.2.2.1 e.2.2.2.1 e.2.2.2.2.1 e.2.2.2.2.2 m

noncomputable def c4 : Code := Try.f4.body.getD .skip
noncomputable def body4 : Code := (loopAt c4 0).getD .skip
theorem hc4 : Try.f4.body = some c4 := by kernel_rfl
theorem hb4 : loopAt c4 0 = some body4 := by kernel_rfl
noncomputable def S4 (xs : List evK.α) (n i : Int) (m : Mk) : St := stOf Try.f4.ntmps [3, 35, 36, 37] [.ptr 0 0, .seq evK xs, .int .i64 n, .int .i64 i] m.inSt
noncomputable def O4 (m : Mk) (r : AV) : St := stOf Try.f4.ntmps [3, 2] [.ptr 0 0, r] m.inSt

theorem round4 (xs : List evK.α) (n i : Int) (m : Mk) (T : St → Tr (Ex × St)) : (evRound (ctx Try.prog G0 l7) noL [] body4 1 [3, 35, 36, 37] [3, 2] (S4 xs n i m) T).get =
    cond (decide (i < n)) (cond (decide (0 ≤ i)) (atL xs i.toNat fun e => cond (room m) (cond (!decide ((takeE e m).2.2.2 = 0)) (some (.ret, O4 (takeE e m).1 (.bool false)))
      (T (S4 xs n (IntKind.i64.wrap (i + 1)) (takeE e m).1)).get) none) none) (some (.exit 0, O4 m .top)) := by kernel_rfl

/-- What a maker of wide limits is behind i events. -/
structure Wide (i : Nat) (m : Mk) : Prop where
  a : m.a = 1000
  b : m.b = 1000
  c : m.c = 1000
  u : m.u = false
  fl : m.fl.length ≤ i
  rc : m.rc.length ≤ 2 * i
  bg0 : 0 ≤ m.bg
  bg : m.bg ≤ i

theorem wide_gath {i : Nat} {m : Mk} (h : Wide i m) (hi : i < 150) (e1 e2 e3 e4 : Bool) (eb : Int) : (gath e1 e2 e3 e4 eb m).1 = 0 ∧ Wide (i + 1) (gath e1 e2 e3 e4 eb m).2 := by
  obtain ⟨ha, hb, hc, hu, hfl, hrc, h0, hbg⟩ := h
  have d1 : decide (m.c ≤ m.bg) = false := by simp; omega
  have hw : IntKind.i64.wrap (m.bg + 1) = m.bg + 1 := wrap64 (by omega) (by omega)
  have d2 : decide (m.a ≤ (m.fl.length : Int)) = false := by simp; omega
  have s1 : gs1 e1 m = (0, { m with bg := cond e1 (m.bg + 1) m.bg }) := by
    unfold gs1 beginE beginM
    rw [d1, hw]; cases e1 <;> rfl
  have s2 : ∀ m' : Mk, m'.a = 1000 → m'.fl.length ≤ i → gs2 e2 eb (0, m') = (0, { m' with fl := cond e2 (m'.fl ++ [eb]) m'.fl }) := by
    intro m' h1 h2
    have d : decide (m'.a ≤ (m'.fl.length : Int)) = false := by simp; omega
    unfold gs2 addE addM
    dsimp only
    rw [d]; cases e2 <;> rfl
  have s3 : ∀ m' : Mk, m'.b = 1000 → m'.u = false → m'.rc.length ≤ 2 * i → gs3 e3 (0, m') = (0, cond e3 (putM m') m') := by
    intro m' h1 h2 h3
    have d : decide (m'.b ≤ wide1 m') = false := by simp [wide1]; omega
    unfold gs3 nextE strict
    dsimp only
    rw [d, h2]; cases e3 <;> rfl
  have s4 : ∀ m' : Mk, m'.u = false → gs4 e4 (0, m') = (0, cond e4 (putM m') m') := by
    intro m' h2
    unfold gs4 lineE strict
    dsimp only
    rw [h2]; cases e4 <;> rfl
  unfold gath
  rw [s1, s2 { m with bg := cond e1 (m.bg + 1) m.bg } ha hfl, s3 { m with bg := cond e1 (m.bg + 1) m.bg, fl := cond e2 (m.fl ++ [eb]) m.fl } hb hu hrc, s4 (cond e3 (putM { m with bg := cond e1 (m.bg + 1) m.bg, fl := cond e2 (m.fl ++ [eb]) m.fl }) { m with bg := cond e1 (m.bg + 1) m.bg, fl := cond e2 (m.fl ++ [eb]) m.fl }) (by cases e3 <;> exact hu)]
  refine ⟨rfl, ?_⟩
  cases e1 <;> cases e2 <;> cases e3 <;> cases e4 <;> constructor <;> simp [putM] <;> omega

theorem wide_take {i : Nat} {m : Mk} (h : Wide i m) (hs : m.sp = 0) (hi : i < 150) (e : evK.α) : (takeE e m).2.2.2 = 0 ∧ (takeE e m).1.sp = 0 ∧ Wide (i + 1) (takeE e m).1 := by
  obtain ⟨h1, h2⟩ := wide_gath h hi e.1 e.2.1 e.2.2.1 e.2.2.2.1 e.2.2.2.2.2
  unfold takeE takeP
  rw [hs]
  simp only [decide_true, cond_true]
  generalize gath e.1 e.2.1 e.2.2.1 e.2.2.2.1 e.2.2.2.2.2 m = g at h1 h2
  unfold takeT
  rw [h1]
  simp only [decide_true, Bool.not_true, cond_false]
  obtain ⟨ha, hb, hc, hu, hfl, hrc, h0, hbg⟩ := h2
  cases e.2.2.2.2.1
  · exact ⟨rfl, rfl, ha, hb, hc, hu, hfl, hrc, h0, hbg⟩
  · exact ⟨rfl, rfl, ha, hb, hc, hu, hfl, by simp, h0, hbg⟩

def afterM (m : Mk) (es : List evK.α) : Mk := es.foldl (fun m e => (takeE e m).1) m
def start4 : Mk := newM 1000 1000 1000 false

theorem loop4 (xs : List evK.α) (hx : xs.length ≤ 150) : (afterM start4 xs).sp = 0 ∧ LoopSem (ctx Try.prog G0 l7) [] body4 (S4 xs xs.length 0 start4) (.exit 0, O4 (afterM start4 xs) .top) := by
  have := range_loop (ctx_ok ok7) hm (L := noL) (n0 := []) (body := body4) (off := 1) (live := [3, 35, 36, 37]) (out := [3, 2]) noL_ok xs (fun i m => S4 xs xs.length i m) (fun m e => (takeE e m).1) (fun m => (.exit 0, O4 m .top))
    (fun i m => i ≤ 150 ∧ m.sp = 0 ∧ Wide i m) (fun i m e ⟨h1, h2, h3⟩ he => by
      have hi : i < xs.length := (List.getElem?_eq_some_iff.1 he).1
      obtain ⟨k1, k2, k3⟩ := wide_take h3 h2 (by omega) e
      refine ⟨⟨by omega, k2, k3⟩, fun T => ?_⟩
      have hr : room m = true := by
        have := h3.fl; have := h3.rc
        simp only [room, Bool.and_eq_true, decide_eq_true_eq]; unfold LIM; omega
      rw [round4, decide_eq_true (by omega : (i : Int) < xs.length), decide_eq_true (by omega : (0 : Int) ≤ i), atL_some (show xs[(i : Int).toNat]? = some e from he), hr, k1, wrap64 (by omega) (by omega)]
      rfl) (fun m _ T => by rw [round4, decide_eq_false (by omega)]; rfl) xs.length 0 start4 (by omega) ⟨by omega, rfl, ⟨rfl, rfl, rfl, rfl, by simp [start4, newM], by simp [start4, newM], by simp [start4, newM], by simp [start4, newM]⟩⟩
  exact ⟨this.1.2.1, this.2⟩

/-! ### The law -/
def isStart (m : Mk) : Bool := decide (m.a = 1000) && decide (m.b = 1000) && decide (m.c = 1000) && !m.u && m.fl.isEmpty && m.rc.isEmpty && decide (m.bg = 0) && decide (m.ct = 0) && decide (m.wd = 0) && decide (m.sp = 0)
noncomputable def spec4 (vals : List AV) (st : Store) : Tr (Ex × St) :=
  match vals, getMk st with
  | [.ptr 0 0, .seq evK xs, .int .i64 n, .int .i64 i], some m => .need (isStart m && decide (i = 0)) (.need (decide (xs.length ≤ 150) && decide (n = xs.length)) (.ret (.exit 0, O4 (afterM start4 xs) .top)))
  | _, _ => .no
theorem spec4_ok : LoopOK (ctx Try.prog G0 l7) [] body4 Try.f4.ntmps [3, 35, 36, 37] spec4 := by
  intro vals st r h
  unfold spec4 at h
  split at h
  · rename_i xs n i m hm'
    obtain ⟨h1, h⟩ := need_get h
    obtain ⟨h2, h⟩ := need_get h
    have := ret_get h; subst this
    obtain rfl := getMk_ok hm'
    simp only [isStart, Bool.and_eq_true, decide_eq_true_eq, Bool.not_eq_true', List.isEmpty_iff] at h1 h2
    obtain ⟨⟨⟨⟨⟨⟨⟨⟨⟨⟨ha, hb⟩, hc⟩, hu⟩, hfl⟩, hrc⟩, hbg⟩, hct⟩, hwd⟩, hsp⟩, rfl⟩ := h1
    obtain ⟨hx, rfl⟩ := h2
    have : m = start4 := by
      cases m; simp only at ha hb hc hu hfl hrc hbg hct hwd hsp; subst ha hb hc hu hfl hrc hbg hct hwd hsp; rfl
    subst this
    exact (loop4 xs hx).2
  · exact (no_get h).elim

noncomputable def L4 : Nat → St → Tr (Ex × St) := loops [(0, loopL [] Try.f4.ntmps [3, 35, 36, 37] spec4)]
theorem wide_ev (xs : List evK.α) : (evFn (ctx Try.prog G0 l7) L4 Try.f4 [.seq evK xs] []).get =
    cond (decide (150 < (xs.length : Int))) (some (.bool true, [])) (cond (decide (xs.length ≤ 150) && decide ((xs.length : Int) = xs.length))
      (cond (decide ((afterM start4 xs).sp = 0)) (some (.bool true, [])) (some (.bool false, []))) none) := by kernel_rfl
theorem wide_true (xs : List evK.α) : (evFn (ctx Try.prog G0 l7) L4 Try.f4 [.seq evK xs] []).get = some (.bool true, []) := by
  rw [wide_ev]
  by_cases h : xs.length ≤ 150
  · rw [decide_eq_false (by omega), decide_eq_true h, (loop4 xs h).1]; simp
  · rw [decide_eq_true (by omega)]; rfl
theorem room_of {i : Nat} {m : Mk} (h1 : m.fl.length ≤ i) (h2 : m.rc.length ≤ 2 * i) (hi : i ≤ 100000) : room m = true := by
  simp only [room, Bool.and_eq_true, decide_eq_true_eq]; unfold LIM; omega

end Go.Proofs.Ytmdgkchphmncpaa
