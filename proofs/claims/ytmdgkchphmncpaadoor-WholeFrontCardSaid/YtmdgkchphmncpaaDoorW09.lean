/- WholeLimits: a text without a fault within limits, through all of it; the law's answer. (under way) -/
import Derived.Test.YtmdgkchphmncpaaDoorW07
import Derived.Test.YtmdgkchphmncpaaDoorW08
namespace Go.Proofs.YtmdgkchphmncpaaDoor
open Go Go.Abs
set_option maxRecDepth 100000

def wideW (w : Wk) : Wk := { w with m := wideOf w.m }
structure WLim (l : Lm) (w : Wk) : Prop where
  lim : Lim l w.s w.m w.out
  s0 : 0 ≤ w.s
  s6 : w.s ≤ 6
theorem lim_next {l : Lm} (hf : fitsL l.1 l.2.1 l.2.2.1 = true) (d : D3) (first i : Int) {w : Wk} (b : Int) (h : WLim l w) (hz : (wNext d first i w b).1 = 0) :
    WLim l (wNext d first i w b).2 ∧ wNext d first i (wideW w) b = (0, wideW (wNext d first i w b).2) := by
  unfold wNext at hz ⊢
  show WLim l _ ∧ (match utfP w.u b with | none => _ | some u' => _) = _
  cases hu : utfP w.u b with
  | none => rw [hu] at hz; simp at hz
  | some u' =>
    rw [hu] at hz
    dsimp only at hz ⊢
    by_cases hi : i < first
    · rw [decide_eq_true hi]
      exact ⟨⟨h.lim, h.s0, h.s6⟩, rfl⟩
    · rw [decide_eq_false hi] at hz ⊢
      simp only [cond_false] at hz ⊢
      show WLim l _ ∧ cond (!decide ((scanD d w.s b).2.2 = 0)) _ (cond (!decide ((takeE (scanD d w.s b).1 (wideOf w.m)).2.2.2 = 0)) _ _) = _
      by_cases hs : (scanD d w.s b).2.2 = 0
      · rw [decide_eq_true hs] at hz ⊢
        simp only [Bool.not_true, cond_false] at hz ⊢
        by_cases hk : (takeE (scanD d w.s b).1 w.m).2.2.2 = 0
        · have he := evf_scan d h.s0 h.s6 hs
          have hw := wide_take hf h.lim hk
          rw [hw, decide_eq_true hk]
          simp only [decide_true, Bool.not_true, cond_false]
          refine ⟨⟨lim_take hf h.lim he h.s0 h.s6 hk, he.r0, he.r6⟩, ?_⟩
          have hw' : takeE (scanD d (wideW w).s b).1 (wideW w).m = _ := hw
          rw [hw']; rfl
        · rw [decide_eq_false hk] at hz
          exact absurd hz hk
      · rw [decide_eq_false hs] at hz
        exact absurd hz hs

theorem lim_run {l : Lm} (hf : fitsL l.1 l.2.1 l.2.2.1 = true) (d : D3) (first : Int) : ∀ (r : List UInt8) (i : Int) (w : Wk), WLim l w → (wRun d first i r w).1 = 0 →
    WLim l (wRun d first i r w).2.2 ∧ wRun d first i r (wideW w) = (0, (wRun d first i r w).2.1, wideW (wRun d first i r w).2.2)
  | [], i, w, h, _ => ⟨h, rfl⟩
  | b :: r, i, w, h, hz => by
    rw [wRun_cons] at hz ⊢
    by_cases hn : (wNext d first i w b.toNat).1 = 0
    · obtain ⟨h1, h2⟩ := lim_next hf d first i b.toNat h hn
      rw [decide_eq_true hn] at hz ⊢
      simp only [cond_true] at hz ⊢
      obtain ⟨h3, h4⟩ := lim_run hf d first r (i + 1) _ h1 hz
      refine ⟨h3, ?_⟩
      rw [wRun_cons, h2]
      simp only [decide_true, cond_true]
      exact h4
    · rw [decide_eq_false hn] at hz
      exact absurd hz hn

theorem lim_end {l : Lm} (hf : fitsL l.1 l.2.1 l.2.2.1 = true) {u s a : Int} {m : Mk} {out : Rws} (h : Lim l s m out) (h0 : 0 ≤ s) (h6 : s ≤ 6) (hz : (endP u s a m out).1 = 0) :
    (∃ m', Lim l 0 m' (endP u s a m out).2.2.2) ∧ (endP u s a (wideOf m) out).1 = 0 ∧ (endP u s a (wideOf m) out).2.1 = 0 ∧ (endP u s a (wideOf m) out).2.2.2 = (endP u s a m out).2.2.2 := by
  unfold endP at hz ⊢
  by_cases hu : u = 0
  · simp only [hu, decide_true, Bool.not_true, cond_false] at hz ⊢
    by_cases hs : (closeP s).2 = 0
    · rw [decide_eq_true hs] at hz ⊢
      simp only [Bool.not_true, cond_false] at hz ⊢
      by_cases hk : (takeE (closeP s).1 m).2.2.2 = 0
      · rw [wide_take hf h hk, decide_eq_true hk]
        simp only [decide_true, Bool.not_true, cond_false]
        refine ⟨⟨_, lim_take hf h (evf_close h0 h6 hs) h0 h6 hk⟩, ?_, ?_, ?_⟩ <;> first | rfl | trivial
      · rw [decide_eq_false hk] at hz
        exact absurd hz hk
    · rw [decide_eq_false hs] at hz
      exact absurd hz hs
  · simp [hu] at hz

theorem walk_lim {d : D3} {l : Lm} {t : List UInt8} (hz : (walkP d l t).1 = 0) :
    (∃ m', Lim l 0 m' (walkP d l t).2.2) ∧ (walkP d wideL t).1 = 0 ∧ (walkP d wideL t).2.1 = 0 ∧ (walkP d wideL t).2.2 = (walkP d l t).2.2 := by
  unfold walkP at hz ⊢
  cases hr : rightD d.1 d.2.1 d.2.2 with
  | false => rw [hr] at hz; simp at hz
  | true =>
    cases hf : fitsL l.1 l.2.1 l.2.2.1 with
    | false => rw [hr, hf] at hz; simp at hz
    | true =>
      rw [hr, hf] at hz
      have hfw : fitsL wideL.1 wideL.2.1 wideL.2.2.1 = true := by decide
      rw [hfw]
      simp only [Bool.not_true, cond_false] at hz ⊢
      have hfl := hf
      simp only [fitsL, decide_eq_true_eq] at hfl
      have h0 : WLim l (wk0 l) := by
        refine ⟨⟨rfl, rfl, rfl, rfl, rfl, ?_, by simp [wk0, newM], fun _ => ?_, fun h => by simp [wk0] at h, rfl, fun h => by simp [wk0, newM] at h, by simp [wk0], by simp [wk0, newM], ?_, by simp [wk0, newM, inrec]⟩, by simp [wk0], by simp [wk0]⟩
        · show ((0 : Nat) : Int) ≤ l.1; omega
        · show ((0 : Nat) : Int) < l.2.1; omega
        · show (0 : Int) ≤ l.2.2.1; omega
      by_cases hn : (run0 d l t).1 = 0
      · obtain ⟨h1, h2⟩ := lim_run hf d (firstOfT t) t 0 (wk0 l) h0 hn
        have h2' : run0 d wideL t = (0, (run0 d l t).2.1, wideW (run0 d l t).2.2) := h2
        rw [decide_eq_true hn] at hz ⊢
        rw [h2']
        simp only [cond_true, decide_true] at hz ⊢
        exact lim_end hf h1.lim h1.s0 h1.s6 hz
      · rw [decide_eq_false hn] at hz
        exact absurd hz hn

/-! ### Records are short -/
theorem take_short (e : Evt) (m : Mk) : (takeE e m).2.1.length ≤ m.rc.length + 2 := by
  have ht : ∀ e5 (m : Mk), (takeT e5 m).2.1.length ≤ m.rc.length := by
    intro e5 m; unfold takeT
    cases decide (m.sp = 0) <;> cases e5 <;> simp
  unfold takeE takeP
  have := (grow_gath e.1 e.2.1 e.2.2.1 e.2.2.2.1 e.2.2.2.2.2 m).2
  generalize gath e.1 e.2.1 e.2.2.1 e.2.2.2.1 e.2.2.2.2.2 m = g at this
  cases decide (m.sp = 0)
  · have h := ht e.2.2.2.2.1 m
    simp only [cond_false]; omega
  · have h := ht e.2.2.2.2.1 { g.2 with sp := g.1 }
    simp only [cond_true]; dsimp only at h ⊢; omega
def Short (k : Nat) (o : Rws) : Prop := ∀ r ∈ o, r.length ≤ k
theorem Short.mono {k k' : Nat} {o : Rws} (h : Short k o) (hk : k ≤ k') : Short k' o := fun r hr => Nat.le_trans (h r hr) hk
theorem short_app {k : Nat} {o : Rws} {r : List (List UInt8)} (h : Short k o) (hr : r.length ≤ k) : Short k (o ++ [r]) := by
  intro x hx
  rcases List.mem_append.1 hx with hx | hx
  · exact h x hx
  · simp only [List.mem_singleton] at hx; subst hx; exact hr
theorem short_next {i : Nat} {w : Wk} (h : WOK i w) (hs : Short (2 * i + 2) w.out) (d : D3) (first j b : Int) : Short (2 * (i + 1) + 2) (wNext d first j w b).2.out := by
  have hs' : Short (2 * (i + 1) + 2) w.out := hs.mono (by omega)
  have hrc := h.rc
  unfold wNext
  cases utfP w.u b with
  | none => exact hs'
  | some u' =>
    dsimp only
    cases decide (j < first)
    · cases decide ((scanD d w.s b).2.2 = 0)
      · exact hs'
      · cases decide ((takeE (scanD d w.s b).1 w.m).2.2.2 = 0)
        · exact hs'
        · simp only [cond_false, Bool.not_true]
          cases (takeE (scanD d w.s b).1 w.m).2.2.1
          · exact hs'
          · exact short_app hs' (by have := take_short (scanD d w.s b).1 w.m; omega)
    · exact hs'
theorem short_run (d : D3) (first : Int) : ∀ (r : List UInt8) (i : Nat) (j : Int) (w : Wk), WOK i w → Short (2 * i + 2) w.out → Short (2 * (i + r.length) + 2) (wRun d first j r w).2.2.out
  | [], i, j, w, _, h => h
  | b :: r, i, j, w, hk, h => by
    have hn := short_next hk h d first j b.toNat
    rw [wRun_cons]
    cases decide ((wNext d first j w b.toNat).1 = 0)
    · exact hn.mono (by simp only [List.length_cons]; omega)
    · have := short_run d first r (i + 1) (j + 1) _ (wok_next hk d first j b.toNat) hn
      simp only [cond_true, List.length_cons]
      rw [show i + (r.length + 1) = i + 1 + r.length by omega]; exact this
theorem short_walk (d : D3) (l : Lm) (t : List UInt8) : Short (2 * t.length + 4) (walkP d l t).2.2 ∧ (walkP d l t).2.2.length ≤ t.length + 1 := by
  have hk := wok_run0 d l t
  have hs : Short (2 * t.length + 2) (run0 d l t).2.2.out := by
    have := short_run d (firstOfT t) t 0 0 (wk0 l) (wok0 l) (fun r hr => by simp [wk0] at hr)
    rw [Nat.zero_add] at this; exact this
  unfold walkP
  cases rightD d.1 d.2.1 d.2.2
  · exact ⟨fun r hr => by simp at hr, by simp⟩
  · cases fitsL l.1 l.2.1 l.2.2.1
    · exact ⟨fun r hr => by simp at hr, by simp⟩
    · simp only [Bool.not_true, cond_false]
      have hrc := hk.rc
      have hout := hk.out
      cases decide ((run0 d l t).1 = 0)
      · exact ⟨hs.mono (by omega), by show (run0 d l t).2.2.out.length ≤ _; omega⟩
      · simp only [cond_true]
        unfold endOf endP
        cases decide ((run0 d l t).2.2.u = 0)
        · exact ⟨hs.mono (by omega), by show (run0 d l t).2.2.out.length ≤ _; omega⟩
        · cases decide ((closeP (run0 d l t).2.2.s).2 = 0)
          · exact ⟨hs.mono (by omega), by show (run0 d l t).2.2.out.length ≤ _; omega⟩
          · cases decide ((takeE (closeP (run0 d l t).2.2.s).1 (run0 d l t).2.2.m).2.2.2 = 0)
            · exact ⟨hs.mono (by omega), by show (run0 d l t).2.2.out.length ≤ _; omega⟩
            · simp only [Bool.not_true, cond_false]
              cases (takeE (closeP (run0 d l t).2.2.s).1 (run0 d l t).2.2.m).2.2.1
              · exact ⟨hs.mono (by omega), by show (run0 d l t).2.2.out.length ≤ _; omega⟩
              · refine ⟨short_app (hs.mono (by omega)) ?_, by show ((run0 d l t).2.2.out ++ [_]).length ≤ _; rw [List.length_append]; simp; omega⟩
                have := take_short (closeP (run0 d l t).2.2.s).1 (run0 d l t).2.2.m
                omega

/-! ### The law -/
theorem limits_true (d : D3) (l : Lm) (t : List UInt8) : (evFn XM LM Tryd.f5 [dAV d, lAV l, .str t] []).get = some (.bool true, []) := by
  rw [limits_ev2]
  by_cases hl : t.length ≤ 300
  · rw [decide_eq_false (by omega : ¬ (300 : Int) < t.length), decide_eq_true (by omega : t.length ≤ 100000)]
    simp only [cond_true, cond_false]
    by_cases hz : (walkP d l t).1 = 0
    · obtain ⟨⟨m', hL⟩, w1, w2, w3⟩ := walk_lim hz
      obtain ⟨s1, s2⟩ := short_walk d l t
      rw [decide_eq_true hz]
      simp only [Bool.not_true, cond_false]
      have hrows : (walkP d l t).2.2.all (fun r => rowOK l ((walkP d l t).2.2.headD []) r) = true := by
        refine List.all_eq_true.2 fun r hr => ?_
        have h := hL.rows r hr
        have hsh := s1 r hr
        have h1 := h.one; have h2 := h.most; have h3 := h.alike; have h4 := h.xs
        simp only [rowOK, Bool.and_eq_true, Bool.not_eq_true', decide_eq_false_iff_not, Bool.or_eq_true, decide_eq_true_eq, List.all_eq_true]
        refine ⟨by omega, by omega, ?_, by omega, fun x hx => by have := h4 x hx; omega⟩
        cases hu : l.2.2.2 with
        | false => exact .inl rfl
        | true => exact .inr (by have := h3 hu; omega)
      have hshort : shortR (walkP d l t).2.2 = true := by
        simp only [shortR, Bool.and_eq_true, decide_eq_true_eq, List.all_eq_true]
        refine ⟨by unfold LIM; omega, fun r hr => ?_⟩
        have := s1 r hr; unfold LIM; omega
      have hrec : ((walkP d l t).2.2.length : Int) ≤ l.2.2.1 := by
        have k1 := hL.ct; have k2 := hL.bg; have k3 := hL.bgc; have k4 := inrec_le 0
        omega
      rw [hrows, decide_eq_true (show (walkP d l t).2.2.length ≤ 1000000 by omega)]
      simp only [decide_true, Bool.and_true, cond_true]
      unfold limits1
      rw [decide_eq_true hrec, decide_eq_true w1, decide_eq_true w2, hshort, decide_eq_true w3.symm]
      rfl
    · rw [decide_eq_false hz]; rfl
  · rw [decide_eq_true (by omega : (300 : Int) < t.length)]; rfl
end Go.Proofs.YtmdgkchphmncpaaDoor
