/- A text without a fault within limits: the plain law. (under way) -/
import Derived.Test.YtmdgkchphmncpaaDoorW05
namespace Go.Proofs.YtmdgkchphmncpaaDoor
open Go Go.Abs
set_option maxRecDepth 100000

/-- What the events of a scan keep to. -/
structure EvF (s : Int) (e : Evt) (s' : Int) : Prop where
  r0 : 0 ≤ s'
  r6 : s' ≤ 6
  beg : e.1 = true → s = 0
  opens : s = 0 → 1 ≤ s' → s' ≤ 5 → e.1 = true
  six : s = 6 → s' = 0
  fieldx : e.2.2.1 = true → s ≠ 5 ∧ e.2.2.2.1 = false ∧ e.2.2.2.2.1 = false
  linex : e.2.2.2.1 = true → 1 ≤ s ∧ s ≤ 4
  recx : e.2.2.2.2.1 = true → s' = 0 ∧ 1 ≤ s ∧ s ≤ 5 ∧ (e.2.2.2.1 = true ∨ s = 5)
  pend : s' = 5 → e.2.2.2.1 = true ∧ e.2.2.2.2.1 = false
  five : s = 5 → e.2.2.2.2.1 = true ∧ e.2.2.2.1 = false ∧ e.1 = false ∧ e.2.1 = false ∧ e.2.2.1 = false
  line5 : e.2.2.2.1 = true → e.2.2.2.2.1 = false → s' = 5
  shut : 1 ≤ s → s ≤ 5 → (s' = 0 ∨ s' = 6) → e.2.2.2.2.1 = true

theorem evf_scan (d : D3) {s b : Int} (h0 : 0 ≤ s) (h6 : s ≤ 6) (he : (scanD d s b).2.2 = 0) : EvF s (scanD d s b).1 (scanD d s b).2.1 := by
  unfold scanD at he ⊢
  generalize d.1 = del at he ⊢
  generalize d.2.1 = q at he ⊢
  generalize d.2.2 = en at he ⊢
  unfold scanP at he ⊢
  by_cases c1 : 5 ≤ s
  · rw [decide_eq_true c1] at he ⊢
    simp only [cond_true] at he ⊢
    unfold pendP at he ⊢
    by_cases c2 : b = 10
    · simp only [c2, decide_true, Bool.not_true, cond_false] at he ⊢
      by_cases c3 : s = 5
      · subst c3; constructor <;> simp
      · have : s = 6 := by omega
        subst this; constructor <;> simp
    · simp [c2] at he
  · rw [decide_eq_false c1] at he ⊢
    simp only [cond_false] at he ⊢
    have hs : s = 0 ∨ s = 1 ∨ s = 2 ∨ s = 3 ∨ s = 4 := by omega
    by_cases c3 : s = 3
    · subst c3
      by_cases cq : b = q
      · simp [cq] ; constructor <;> simp [ev0]
      · simp [cq] ; constructor <;> simp
    · simp only [c3, decide_false, Bool.false_and, cond_false, Bool.false_or] at he ⊢
      by_cases c4 : s = 4 ∧ b = q
      · obtain ⟨rfl, cq⟩ := c4
        simp [cq]; constructor <;> simp
      · have c4' : (decide (s = 4) && decide (b = q)) = false := by
          rw [Bool.and_eq_false_iff]; simp only [decide_eq_false_iff_not]
          by_cases h : s = 4
          · exact .inr fun h2 => c4 ⟨h, h2⟩
          · exact .inl h
        rw [c4'] at he ⊢
        simp only [cond_false] at he ⊢
        by_cases cd : b = del
        · simp only [cd, decide_true, cond_true]
          rcases hs with rfl | rfl | rfl | rfl | rfl <;> constructor <;> simp at c3 ⊢
        · simp only [cd, decide_false, cond_false] at he ⊢
          by_cases ce : b = 13 ∨ b = 10
          · have ce' : (decide (b = 13) || decide (b = 10)) = true := by simpa using ce
            rw [ce'] at he ⊢
            simp only [cond_true] at he ⊢
            unfold endsP at he ⊢
            cases hb : endsB en b <;> rw [hb] at he <;> simp only [cond_true, cond_false] at he ⊢
            · unfold endsR
              by_cases c10 : b = 10
              · simp only [c10, decide_true, cond_true]
                rcases hs with rfl | rfl | rfl | rfl | rfl <;> constructor <;> simp at c3 ⊢
              · simp only [c10, decide_false, cond_false]
                rcases hs with rfl | rfl | rfl | rfl | rfl <;> constructor <;> simp [ev0] at c3 ⊢
            · simp at he
          · have ce' : (decide (b = 13) || decide (b = 10)) = false := by simpa using ce
            rw [ce'] at he ⊢
            simp only [cond_false] at he ⊢
            unfold s7P at he ⊢
            by_cases c44 : s = 4
            · simp [c44] at he
            · simp only [c44, decide_false, cond_false] at he ⊢
              by_cases cq : b = q
              · by_cases c2 : s = 2
                · simp [cq, c2] at he
                · simp only [cq, c2, decide_true, decide_false, Bool.and_false, cond_false, cond_true]
                  rcases hs with rfl | rfl | rfl | rfl | rfl <;> constructor <;> simp at c3 c2 c44 ⊢
              · simp only [cq, decide_false, Bool.false_and, cond_false]
                rcases hs with rfl | rfl | rfl | rfl | rfl <;> constructor <;> simp at c3 c44 ⊢
theorem evf_close {s : Int} (h0 : 0 ≤ s) (h6 : s ≤ 6) (he : (closeP s).2 = 0) : EvF s (closeP s).1 0 := by
  unfold closeP at he ⊢
  have hs : s = 0 ∨ s = 1 ∨ s = 2 ∨ s = 3 ∨ s = 4 ∨ s = 5 ∨ s = 6 := by omega
  rcases hs with rfl | rfl | rfl | rfl | rfl | rfl | rfl <;> first | (simp at he; done) | (constructor <;> simp [ev0])

/-! ### An event without a fault -/
def m2 (e1 e2 : Bool) (eb : Int) (m : Mk) : Mk := { m with bg := cond e1 (IntKind.i64.wrap (m.bg + 1)) m.bg, fl := cond e2 (m.fl ++ [eb]) m.fl }
def onM (e : Bool) (m : Mk) : Mk := cond e (putM m) m
def quiet1 (e1 e2 e3 e4 : Bool) (eb : Int) (m : Mk) : Prop :=
  (e1 = true → beginE m = 0) ∧ (e2 = true → addE m = 0) ∧ (e3 = true → nextE (m2 e1 e2 eb m) = 0) ∧ (e4 = true → lineE (onM e3 (m2 e1 e2 eb m)) = 0)
theorem gath_zero (e1 e2 e3 e4 : Bool) (eb : Int) (m : Mk) : (gath e1 e2 e3 e4 eb m).1 = 0 ↔ quiet1 e1 e2 e3 e4 eb m := by
  have b0 : beginE m = 0 ∨ beginE m = 9 := by unfold beginE; cases decide (m.c ≤ m.bg) <;> simp
  have a0 : ∀ m : Mk, addE m = 0 ∨ addE m = 7 := by intro m; unfold addE; cases decide (m.a ≤ (m.fl.length : Int)) <;> simp
  have n0 : ∀ m : Mk, nextE m = 0 ∨ nextE m = 8 ∨ nextE m = 10 := by
    intro m; unfold nextE; cases decide (m.b ≤ wide1 m) <;> cases strict m <;> cases decide (wide1 m = m.wd) <;> simp
  have l0 : ∀ m : Mk, lineE m = 0 ∨ lineE m = 10 := by
    intro m; unfold lineE; cases strict m <;> cases decide (wide1 m = m.wd) <;> simp
  have hb : beginE m = 0 → beginM m = { m with bg := IntKind.i64.wrap (m.bg + 1) } := by
    unfold beginE beginM; cases decide (m.c ≤ m.bg) <;> simp
  have ha : ∀ m : Mk, addE m = 0 → addM eb m = { m with fl := m.fl ++ [eb] } := by
    intro m; unfold addE addM; cases decide (m.a ≤ (m.fl.length : Int)) <;> simp
  have aa : ∀ x : Int, addE { m with bg := x } = addE m := fun _ => rfl
  have s4 : ∀ x : Mk, (gs4 e4 (0, x)).1 = 0 ↔ (e4 = true → lineE x = 0) := by intro x; unfold gs4; cases e4 <;> simp
  have s4' : ∀ (f : Int) (x : Mk), f ≠ 0 → (gs4 e4 (f, x)).1 ≠ 0 := by intro f x hf; unfold gs4; rw [decide_eq_false hf]; exact hf
  have s3 : ∀ x : Mk, (gs4 e4 (gs3 e3 (0, x))).1 = 0 ↔ (e3 = true → nextE x = 0) ∧ (e4 = true → lineE (onM e3 x) = 0) := by
    intro x
    cases e3
    · have : gs3 false (0, x) = (0, x) := by unfold gs3; rfl
      rw [this, s4]; simp [onM]
    · have : gs3 true (0, x) = (nextE x, putM x) := by unfold gs3; rfl
      rw [this]
      by_cases hn : nextE x = 0
      · rw [hn, s4]; simp [onM]
      · simp [s4' _ _ hn, hn]
  have s3' : ∀ (f : Int) (x : Mk), f ≠ 0 → (gs4 e4 (gs3 e3 (f, x))).1 ≠ 0 := by
    intro f x hf
    have : gs3 e3 (f, x) = (f, x) := by unfold gs3; rw [decide_eq_false hf]; rfl
    rw [this]; exact s4' f x hf
  have s2 : ∀ x : Mk, (gs4 e4 (gs3 e3 (gs2 e2 eb (0, x)))).1 = 0 ↔ (e2 = true → addE x = 0) ∧ (e3 = true → nextE { x with fl := cond e2 (x.fl ++ [eb]) x.fl } = 0) ∧ (e4 = true → lineE (onM e3 { x with fl := cond e2 (x.fl ++ [eb]) x.fl }) = 0) := by
    intro x
    cases e2
    · have : gs2 false eb (0, x) = (0, x) := by unfold gs2; rfl
      rw [this, s3]; simp
    · have : gs2 true eb (0, x) = (addE x, addM eb x) := by unfold gs2; rfl
      rw [this]
      by_cases hn : addE x = 0
      · rw [hn, ha x hn, s3]; simp
      · simp [s3' _ _ hn, hn]
  have s2' : ∀ (f : Int) (x : Mk), f ≠ 0 → (gs4 e4 (gs3 e3 (gs2 e2 eb (f, x)))).1 ≠ 0 := by
    intro f x hf
    have : gs2 e2 eb (f, x) = (f, x) := by unfold gs2; rw [decide_eq_false hf]; rfl
    rw [this]; exact s3' f x hf
  unfold gath quiet1
  cases e1
  · have : gs1 false m = (0, m) := rfl
    rw [this, s2]; simp [m2]
  · have : gs1 true m = (beginE m, beginM m) := rfl
    rw [this]
    by_cases hn : beginE m = 0
    · rw [hn, hb hn, s2]; simp [m2, aa]
    · simp [s2' _ _ hn, hn]
theorem gath_form {e1 e2 e3 e4 : Bool} {eb : Int} {m : Mk} (h : quiet1 e1 e2 e3 e4 eb m) : gath e1 e2 e3 e4 eb m = (0, onM e4 (onM e3 (m2 e1 e2 eb m))) := by
  obtain ⟨h1, h2, h3, h4⟩ := h
  have g1 : gs1 e1 m = (0, { m with bg := cond e1 (IntKind.i64.wrap (m.bg + 1)) m.bg }) := by
    unfold gs1
    cases e1
    · rfl
    · have := h1 rfl
      unfold beginE at this
      unfold beginE beginM
      cases hd : decide (m.c ≤ m.bg) <;> rw [hd] at this
      · rfl
      · simp at this
  have g2 : gs2 e2 eb (0, { m with bg := cond e1 (IntKind.i64.wrap (m.bg + 1)) m.bg }) = (0, m2 e1 e2 eb m) := by
    unfold gs2
    cases e2
    · rfl
    · have := h2 rfl
      unfold addE at this
      unfold addE addM
      dsimp only
      cases hd : decide (m.a ≤ (m.fl.length : Int)) <;> rw [hd] at this
      · rfl
      · simp at this
  have g3 : gs3 e3 (0, m2 e1 e2 eb m) = (0, onM e3 (m2 e1 e2 eb m)) := by
    unfold gs3
    cases e3
    · rfl
    · show (nextE (m2 e1 e2 eb m), putM (m2 e1 e2 eb m)) = _
      rw [h3 rfl]; rfl
  have g4 : gs4 e4 (0, onM e3 (m2 e1 e2 eb m)) = (0, onM e4 (onM e3 (m2 e1 e2 eb m))) := by
    unfold gs4
    cases e4
    · rfl
    · show (lineE (onM e3 (m2 e1 e2 eb m)), putM (onM e3 (m2 e1 e2 eb m))) = _
      rw [h4 rfl]; rfl
  unfold gath
  rw [g1, g2, g3, g4]

/-! ### Within limits -/
abbrev Lm : Type := Int × Int × Int × Bool
abbrev Rws : Type := List (List (List UInt8))
def inrec (s : Int) : Int := if 1 ≤ s ∧ s ≤ 5 then 1 else 0
structure RowIn (l : Lm) (r0 r : List (List UInt8)) : Prop where
  one : 1 ≤ r.length
  most : (r.length : Int) ≤ l.2.1
  alike : l.2.2.2 = true → r.length = r0.length
  xs : ∀ x ∈ r, (x.length : Int) ≤ l.1
structure Lim (l : Lm) (s : Int) (m : Mk) (out : Rws) : Prop where
  a : m.a = l.1
  b : m.b = l.2.1
  c : m.c = l.2.2.1
  u : m.u = l.2.2.2
  sp : m.sp = 0
  fl : (m.fl.length : Int) ≤ l.1
  xs : ∀ x ∈ m.rc, (x.length : Int) ≤ l.1
  rc : s ≠ 5 → (m.rc.length : Int) < l.2.1
  rc5 : s = 5 → 1 ≤ m.rc.length ∧ (m.rc.length : Int) ≤ l.2.1 ∧ (l.2.2.2 = true → 0 < m.ct → (m.rc.length : Int) = m.wd)
  ct : m.ct = out.length
  wd : 0 < m.ct → m.wd = (out.headD []).length
  rows : ∀ r ∈ out, RowIn l (out.headD []) r
  bg0 : 0 ≤ m.bg
  bgc : m.bg ≤ l.2.2.1
  bg : m.ct + inrec s ≤ m.bg
def wideOf (m : Mk) : Mk := { m with a := 2147483648, b := 2147483648, c := 2147483648, u := false }

theorem inrec_le (s : Int) : 0 ≤ inrec s ∧ inrec s ≤ 1 := by unfold inrec; split <;> omega
theorem head_app (out : Rws) (r : List (List UInt8)) : (out ++ [r]).headD [] = if out = [] then r else out.headD [] := by cases out <;> simp
/-- A record is handed out. -/
theorem lim_out {l : Lm} {s : Int} {m : Mk} {out : Rws} (hl3 : l.2.2.1 ≤ 2147483648) (h : Lim l s m out) (hb1 : 1 ≤ l.2.1) (hs : 1 ≤ s) (hs5 : s ≤ 5) {M : Mk} (hM : M = { m with fl := M.fl, rc := M.rc })
    (hfl : (M.fl.length : Int) ≤ l.1) (hone : 1 ≤ M.rc.length) (hmost : (M.rc.length : Int) ≤ l.2.1) (halike : l.2.2.2 = true → 0 < m.ct → (M.rc.length : Int) = m.wd) (hxs : ∀ x ∈ M.rc, (x.length : Int) ≤ l.1) :
    Lim l 0 { M with rc := [], wd := cond (decide (M.ct = 0)) M.rc.length M.wd, ct := IntKind.i64.wrap (M.ct + 1) } (out ++ [M.rc]) := by
  have hi : inrec s = 1 := by unfold inrec; rw [if_pos ⟨hs, hs5⟩]
  have hbg := h.bg
  have hct := h.ct
  have hbgc := h.bgc
  have e1 : M.ct = m.ct := by rw [hM]
  have e2 : M.wd = m.wd := by rw [hM]
  have e3 : M.bg = m.bg := by rw [hM]
  have hw : IntKind.i64.wrap (M.ct + 1) = M.ct + 1 := wrap64 (by omega) (by omega)
  have hwd : cond (decide (M.ct = 0)) (M.rc.length : Int) M.wd = (((out ++ [M.rc]).headD []).length : Int) := by
    rw [head_app]
    by_cases h0 : m.ct = 0
    · have : out = [] := by cases out with | nil => rfl | cons x xs => rw [hct] at h0; simp at h0; omega
      rw [e1, h0, if_pos this]; rfl
    · have hne : ¬ out = [] := by intro h1; apply h0; rw [hct, h1]; rfl
      rw [e1, decide_eq_false h0, if_neg hne]
      show M.wd = _
      rw [e2]; exact h.wd (by omega)
  refine ⟨by rw [hM]; exact h.a, by rw [hM]; exact h.b, by rw [hM]; exact h.c, by rw [hM]; exact h.u, by rw [hM]; exact h.sp, hfl, by simp, fun _ => by simp; omega, fun h => by omega, ?_, fun _ => hwd, ?_, by show 0 ≤ M.bg; rw [e3]; exact h.bg0, by show M.bg ≤ _; rw [e3]; exact hbgc, ?_⟩
  · show IntKind.i64.wrap (M.ct + 1) = _
    rw [hw, e1, hct]; simp
  · intro r hr
    rw [head_app]
    by_cases h0 : out = []
    · rw [if_pos h0]
      subst h0
      simp at hr; subst hr
      exact ⟨hone, hmost, fun _ => rfl, hxs⟩
    · rw [if_neg h0]
      rcases List.mem_append.1 hr with hr | hr
      · exact h.rows r hr
      · simp at hr; subst hr
        have hpos : 0 < m.ct := by
          rw [hct]; have : 0 < out.length := List.length_pos_iff.2 h0; omega
        refine ⟨hone, hmost, fun hu => ?_, hxs⟩
        have k1 := halike hu hpos
        have k2 := h.wd hpos
        omega
  · show IntKind.i64.wrap (M.ct + 1) + inrec 0 ≤ M.bg
    have : inrec 0 = 0 := by unfold inrec; simp
    rw [hw, this, e1, e3]; omega

theorem begin_lt {m : Mk} (h : beginE m = 0) : m.bg < m.c := by
  unfold beginE at h
  by_cases hc : m.c ≤ m.bg
  · rw [decide_eq_true hc] at h; simp at h
  · omega
theorem add_lt {m : Mk} (h : addE m = 0) : (m.fl.length : Int) < m.a := by
  unfold addE at h
  by_cases hc : m.a ≤ (m.fl.length : Int)
  · rw [decide_eq_true hc] at h; simp at h
  · omega
theorem wide1_eq (m : Mk) : wide1 m = m.rc.length + 1 := by unfold wide1; simp
theorem next_lt {m : Mk} (h : nextE m = 0) : (m.rc.length : Int) + 1 < m.b := by
  unfold nextE at h
  rw [wide1_eq] at h
  by_cases hc : m.b ≤ (m.rc.length : Int) + 1
  · rw [decide_eq_true hc] at h; simp at h
  · omega
theorem line_eq {m : Mk} (h : lineE m = 0) (hs : strict m = true) : (m.rc.length : Int) + 1 = m.wd := by
  unfold lineE at h
  rw [wide1_eq, hs] at h
  by_cases hc : (m.rc.length : Int) + 1 = m.wd
  · exact hc
  · rw [decide_eq_false hc] at h; simp at h
theorem strict_of {m : Mk} (hu : m.u = true) (hc : 0 < m.ct) : strict m = true := by unfold strict; rw [hu, decide_eq_true hc]; rfl
theorem toStr_length (fl : List Int) : (toStr fl).length = fl.length := by simp [toStr]

theorem take_form {e : Evt} {m : Mk} (hsp : m.sp = 0) (hz : (takeE e m).2.2.2 = 0) :
    quiet1 e.1 e.2.1 e.2.2.1 e.2.2.2.1 e.2.2.2.2.2 m ∧ takeE e m = takeT e.2.2.2.2.1 { onM e.2.2.2.1 (onM e.2.2.1 (m2 e.1 e.2.1 e.2.2.2.2.2 m)) with sp := 0 } := by
  unfold takeE takeP at hz ⊢
  rw [hsp] at hz ⊢
  simp only [decide_true, cond_true] at hz ⊢
  have hg : (gath e.1 e.2.1 e.2.2.1 e.2.2.2.1 e.2.2.2.2.2 m).1 = 0 := by
    refine Classical.byContradiction fun hn => hn ?_
    unfold takeT at hz
    rw [decide_eq_false hn] at hz
    exact hz
  have hq := (gath_zero _ _ _ _ _ _).1 hg
  refine ⟨hq, ?_⟩
  rw [gath_form hq]
theorem take_of {e : Evt} {m : Mk} (hsp : m.sp = 0) (hq : quiet1 e.1 e.2.1 e.2.2.1 e.2.2.2.1 e.2.2.2.2.2 m) :
    takeE e m = takeT e.2.2.2.2.1 { onM e.2.2.2.1 (onM e.2.2.1 (m2 e.1 e.2.1 e.2.2.2.2.2 m)) with sp := 0 } := by
  unfold takeE takeP
  rw [hsp]
  simp only [decide_true, cond_true]
  rw [gath_form hq]

/-- Without limits the same. -/
theorem wide_take {l : Lm} {s : Int} {m : Mk} {out : Rws} (hf : fitsL l.1 l.2.1 l.2.2.1 = true) (h : Lim l s m out) {e : Evt} (hz : (takeE e m).2.2.2 = 0) :
    takeE e (wideOf m) = (wideOf (takeE e m).1, (takeE e m).2.1, (takeE e m).2.2.1, 0) := by
  obtain ⟨hq, hform⟩ := take_form h.sp hz
  obtain ⟨h1, h2, h3, h4⟩ := hq
  simp only [fitsL, decide_eq_true_eq] at hf
  have ha := h.a; have hb := h.b; have hc := h.c
  have hq' : quiet1 e.1 e.2.1 e.2.2.1 e.2.2.2.1 e.2.2.2.2.2 (wideOf m) := by
    refine ⟨fun x => ?_, fun x => ?_, fun x => ?_, fun x => ?_⟩
    · have := begin_lt (h1 x)
      unfold beginE
      rw [decide_eq_false (show ¬ (wideOf m).c ≤ (wideOf m).bg by show ¬ (2147483648 : Int) ≤ m.bg; omega)]; rfl
    · have := add_lt (h2 x)
      unfold addE
      rw [decide_eq_false (show ¬ (wideOf m).a ≤ ((wideOf m).fl.length : Int) by show ¬ (2147483648 : Int) ≤ m.fl.length; omega)]; rfl
    · have k := next_lt (h3 x)
      have e1 : (m2 e.1 e.2.1 e.2.2.2.2.2 m).rc = m.rc := rfl
      have e2 : (m2 e.1 e.2.1 e.2.2.2.2.2 m).b = m.b := rfl
      rw [e1, e2] at k
      unfold nextE
      rw [wide1_eq, decide_eq_false (show ¬ (m2 e.1 e.2.1 e.2.2.2.2.2 (wideOf m)).b ≤ ((m2 e.1 e.2.1 e.2.2.2.2.2 (wideOf m)).rc.length : Int) + 1 by show ¬ (2147483648 : Int) ≤ (m.rc.length : Int) + 1; omega)]
      rfl
    · unfold lineE strict
      have : (onM e.2.2.1 (m2 e.1 e.2.1 e.2.2.2.2.2 (wideOf m))).u = false := by cases e.2.2.1 <;> rfl
      rw [this]; rfl
  rw [take_of (m := wideOf m) h.sp hq', hform]
  have : onM e.2.2.2.1 (onM e.2.2.1 (m2 e.1 e.2.1 e.2.2.2.2.2 (wideOf m))) = wideOf (onM e.2.2.2.1 (onM e.2.2.1 (m2 e.1 e.2.1 e.2.2.2.2.2 m))) := by
    cases e.2.2.2.1 <;> cases e.2.2.1 <;> rfl
  rw [this]
  generalize onM e.2.2.2.1 (onM e.2.2.1 (m2 e.1 e.2.1 e.2.2.2.2.2 m)) = M
  unfold takeT
  cases e.2.2.2.2.1 <;> rfl

theorem len1 (a : List (List UInt8)) (x : List UInt8) : ((a ++ [x]).length : Int) = a.length + 1 := by simp
theorem lim_take {l : Lm} {s s' : Int} {m : Mk} {out : Rws} (hf : fitsL l.1 l.2.1 l.2.2.1 = true) (h : Lim l s m out) {e : Evt} (he : EvF s e s') (h0s : 0 ≤ s) (h6s : s ≤ 6) (hz : (takeE e m).2.2.2 = 0) :
    Lim l s' (takeE e m).1 (cond (takeE e m).2.2.1 (out ++ [(takeE e m).2.1]) out) := by
  obtain ⟨hq, hform⟩ := take_form h.sp hz
  rw [hform]
  simp only [fitsL, decide_eq_true_eq] at hf
  obtain ⟨e1, e2, e3, e4, e5, eb⟩ := e
  obtain ⟨q1, q2, q3, q4⟩ := hq
  dsimp only at q1 q2 q3 q4 ⊢
  have ha := h.a; have hb := h.b; have hc := h.c; have hu := h.u
  have hfl2 : ((cond e2 (m.fl ++ [eb]) m.fl).length : Int) ≤ l.1 := by
    cases e2
    · exact h.fl
    · have := add_lt (q2 rfl); simp only [cond_true, List.length_append, List.length_cons, List.length_nil]; omega
  have hput : ∀ x ∈ m.rc ++ [toStr (cond e2 (m.fl ++ [eb]) m.fl)], (x.length : Int) ≤ l.1 := by
    intro x hx
    rcases List.mem_append.1 hx with hx | hx
    · exact h.xs x hx
    · simp only [List.mem_singleton] at hx; subst hx; rw [toStr_length]; exact hfl2
  cases e5 with
  | true =>
    obtain ⟨hs', hs1, hs5, hor⟩ := he.recx rfl
    have h1 : e1 = false := by
      cases e1 with
      | false => rfl
      | true => have := he.beg rfl; omega
    have h3 : e3 = false := by
      cases e3 with
      | false => rfl
      | true => have := (he.fieldx rfl).2.2; simp at this
    subst h1; subst h3; subst hs'
    by_cases hs : s = 5
    · obtain ⟨_, k2, _, k4, _⟩ := he.five hs
      dsimp only at k2 k4
      subst k2; subst k4
      obtain ⟨r1, r2, r3⟩ := h.rc5 hs
      have := lim_out (M := { m with sp := 0 }) (by omega) h (by omega) hs1 hs5 (by rw [← h.sp]) h.fl r1 r2 r3 h.xs
      exact this
    · have k4 : e4 = true := hor.resolve_right hs
      subst k4
      have hr := h.rc hs
      have := lim_out (M := { putM (m2 false e2 eb m) with sp := 0 }) (by omega) h (by omega) hs1 hs5 (by rw [← h.sp]; rfl) (by show ((0 : Nat) : Int) ≤ _; omega) (by show 1 ≤ (m.rc ++ [_]).length; simp) (by show ((m.rc ++ [_]).length : Int) ≤ _; simp; omega)
        (fun hu' hct => by
          have k := line_eq (q4 rfl) (strict_of (by show m.u = true; rw [hu]; exact hu') (by exact hct))
          show ((m.rc ++ [_]).length : Int) = m.wd
          have k : (m.rc.length : Int) + 1 = m.wd := k
          simp; omega) hput
      exact this
  | false =>
    have h5 : s ≠ 5 := by intro hs; have := (he.five hs).1; simp at this
    have hr := h.rc h5
    have hin := inrec_le s
    have hin' := inrec_le s'
    have hbg : m.ct + inrec s' ≤ cond e1 (IntKind.i64.wrap (m.bg + 1)) m.bg ∧ 0 ≤ cond e1 (IntKind.i64.wrap (m.bg + 1)) m.bg ∧ cond e1 (IntKind.i64.wrap (m.bg + 1)) m.bg ≤ l.2.2.1 := by
      have hbg0 := h.bg0; have hbgc := h.bgc; have hbg := h.bg
      cases e1 with
      | true =>
        have := begin_lt (q1 rfl)
        rw [wrap64 (by omega) (by omega)]
        simp only [cond_true]; omega
      | false =>
        simp only [cond_false]
        refine ⟨?_, hbg0, hbgc⟩
        by_cases hi : 1 ≤ s' ∧ s' ≤ 5
        · have : 1 ≤ s ∧ s ≤ 5 := by
            refine Classical.byContradiction fun hn => ?_
            have : s = 0 ∨ s = 6 := by omega
            rcases this with hs | hs
            · have := he.opens hs hi.1 hi.2; simp at this
            · have := he.six hs; omega
          have e : inrec s = 1 := by unfold inrec; rw [if_pos this]
          omega
        · have e : inrec s' = 0 := by unfold inrec; rw [if_neg hi]
          omega
    cases e4 with
    | true =>
      have hs' := he.line5 rfl rfl
      have h3 : e3 = false := by
        cases e3 with
        | false => rfl
        | true => have := (he.fieldx rfl).2.1; simp at this
      subst h3; subst hs'
      exact ⟨ha, hb, hc, hu, rfl, by show ((0 : Nat) : Int) ≤ _; omega, hput, fun x => absurd rfl x, fun _ => ⟨by show 1 ≤ (m.rc ++ [_]).length; simp, by show ((m.rc ++ [_]).length : Int) ≤ _; rw [len1]; omega, fun hu' hct => by
          show ((m.rc ++ [_]).length : Int) = m.wd
          have k0 := line_eq (q4 rfl) (strict_of (by show m.u = true; rw [hu]; exact hu') (by exact hct))
          have k : (m.rc.length : Int) + 1 = m.wd := k0
          rw [len1]; exact k⟩, h.ct, h.wd, h.rows, hbg.2.1, hbg.2.2, hbg.1⟩
    | false =>
      have hs' : s' ≠ 5 := by intro hs; have := (he.pend hs).1; simp at this
      cases e3 with
      | true =>
        have k0 := next_lt (q3 rfl)
        have k : (m.rc.length : Int) + 1 < m.b := k0
        exact ⟨ha, hb, hc, hu, rfl, by show ((0 : Nat) : Int) ≤ _; omega, hput, fun _ => by show ((m.rc ++ [_]).length : Int) < _; rw [len1]; omega, fun x => absurd x hs', h.ct, h.wd, h.rows, hbg.2.1, hbg.2.2, hbg.1⟩
      | false =>
        exact ⟨ha, hb, hc, hu, rfl, hfl2, h.xs, fun _ => hr, fun x => absurd x hs', h.ct, h.wd, h.rows, hbg.2.1, hbg.2.2, hbg.1⟩
end Go.Proofs.YtmdgkchphmncpaaDoor
