/- WholeFront: what is whole ahead of a place, in plain words. (under way) -/
import Derived.Test.YtmdgkchphmncpaaDoorW05
namespace Go.Proofs.YtmdgkchphmncpaaDoor
open Go Go.Abs
set_option maxRecDepth 100000

theorem wRun_append (d : D3) (first : Int) : ∀ (x y : List UInt8) (i : Int) (w : Wk), wRun d first i (x ++ y) w =
    cond (decide ((wRun d first i x w).1 = 0)) (wRun d first (i + x.length) y (wRun d first i x w).2.2) (wRun d first i x w)
  | [], y, i, w => by simp [wRun]
  | b :: x, y, i, w => by
    rw [List.cons_append, wRun_cons, wRun_cons]
    by_cases hn : (wNext d first i w b.toNat).1 = 0
    · rw [decide_eq_true hn]
      simp only [cond_true]
      rw [wRun_append d first x y (i + 1) _]
      congr 2
      simp only [List.length_cons]; omega
    · rw [decide_eq_false hn]
      simp only [cond_false]
      rw [decide_eq_false hn]; rfl
theorem next_grow (d : D3) (first i : Int) (w : Wk) (b : Int) : ∃ e, (wNext d first i w b).2.out = w.out ++ e := by
  unfold wNext
  cases utfP w.u b with
  | none => exact ⟨[], by simp⟩
  | some u' =>
    dsimp only
    cases decide (i < first)
    · cases decide ((scanD d w.s b).2.2 = 0)
      · exact ⟨[], by simp⟩
      · cases decide ((takeE (scanD d w.s b).1 w.m).2.2.2 = 0)
        · exact ⟨[], by simp⟩
        · cases (takeE (scanD d w.s b).1 w.m).2.2.1
          · exact ⟨[], by simp⟩
          · exact ⟨_, rfl⟩
    · exact ⟨[], by simp⟩
theorem run_grow (d : D3) (first : Int) : ∀ (r : List UInt8) (i : Int) (w : Wk), ∃ e, (wRun d first i r w).2.2.out = w.out ++ e
  | [], i, w => ⟨[], by simp [wRun]⟩
  | b :: r, i, w => by
    obtain ⟨e1, h1⟩ := next_grow d first i w b.toNat
    rw [wRun_cons]
    cases decide ((wNext d first i w b.toNat).1 = 0)
    · exact ⟨e1, h1⟩
    · obtain ⟨e2, h2⟩ := run_grow d first r (i + 1) (wNext d first i w b.toNat).2
      exact ⟨e1 ++ e2, by simp only [cond_true]; rw [h2, h1, List.append_assoc]⟩
/-- What the end adds: nothing, or one record where there is no fault. -/
theorem end_grow (u s a : Int) (m : Mk) (out : List (List (List UInt8))) : ((endP u s a m out).2.2.2 = out ∧ ((endP u s a m out).1 ≠ 0 → (endP u s a m out).2.1 = a)) ∨ ((endP u s a m out).1 = 0 ∧ ∃ r, (endP u s a m out).2.2.2 = out ++ [r]) := by
  unfold endP
  by_cases hu : u = 0
  · simp only [hu, decide_true, Bool.not_true, cond_false]
    by_cases hs : (closeP s).2 = 0
    · rw [decide_eq_true hs]
      simp only [Bool.not_true, cond_false]
      by_cases hk : (takeE (closeP s).1 m).2.2.2 = 0
      · rw [decide_eq_true hk]
        simp only [Bool.not_true, cond_false]
        cases (takeE (closeP s).1 m).2.2.1
        · exact .inl ⟨rfl, fun h => absurd rfl h⟩
        · exact .inr ⟨by trivial, _, rfl⟩
      · rw [decide_eq_false hk]
        exact .inl ⟨rfl, fun _ => rfl⟩
    · rw [decide_eq_false hs]
      exact .inl ⟨rfl, fun _ => rfl⟩
  · rw [decide_eq_false hu]
    exact .inl ⟨rfl, fun _ => rfl⟩

/-- What the law asks of a beginning and the whole. -/
structure FrontOK (P Q : Int × Int × List (List (List UInt8))) (k : Int) : Prop where
  same : P.1 ≠ 0 → P.2.1 < k → P.1 = Q.1 ∧ P.2.1 = Q.2.1
  pre : ∀ n : Nat, (P.1 = 0 → n + 1 ≤ P.2.2.length ∨ n = 0 ∧ P.2.2.length = 0) → n ≤ P.2.2.length → n ≤ Q.2.2.length ∧ P.2.2.take n = Q.2.2.take n

theorem take_pre {α : Type} (a b : List α) (n : Nat) (h : n ≤ a.length) : n ≤ (a ++ b).length ∧ a.take n = (a ++ b).take n :=
  ⟨by rw [List.length_append]; omega, by rw [List.take_append_of_le_length h]⟩

/-- With one mark or none in both. -/
theorem front_of {d : D3} {x y : List UInt8} {l : Int × Int × Int × Bool} (hr : rightD d.1 d.2.1 d.2.2 = true) (hf : fitsL l.1 l.2.1 l.2.2.1 = true) (hfirst : firstOfT x = firstOfT (x ++ y)) :
    FrontOK (walkP d l x) (walkP d l (x ++ y)) x.length := by
  have hP : walkP d l x = cond (decide ((run0 d l x).1 = 0)) ((endOf x (run0 d l x)).1, (endOf x (run0 d l x)).2.1, (endOf x (run0 d l x)).2.2.2) ((run0 d l x).1, (run0 d l x).2.1, (run0 d l x).2.2.out) := by
    unfold walkP; rw [hr, hf]; rfl
  have hQ : walkP d l (x ++ y) = cond (decide ((run0 d l (x ++ y)).1 = 0)) ((endOf (x ++ y) (run0 d l (x ++ y))).1, (endOf (x ++ y) (run0 d l (x ++ y))).2.1, (endOf (x ++ y) (run0 d l (x ++ y))).2.2.2) ((run0 d l (x ++ y)).1, (run0 d l (x ++ y)).2.1, (run0 d l (x ++ y)).2.2.out) := by
    unfold walkP; rw [hr, hf]; rfl
  have hrun : run0 d l (x ++ y) = cond (decide ((run0 d l x).1 = 0)) (wRun d (firstOfT x) (0 + x.length) y (run0 d l x).2.2) (run0 d l x) := by
    unfold run0; rw [← hfirst]; exact wRun_append d _ x y 0 _
  by_cases h0 : (run0 d l x).1 = 0
  · rw [decide_eq_true h0] at hP hrun
    simp only [cond_true] at hP hrun
    obtain ⟨e, he⟩ := run_grow d (firstOfT x) y (0 + x.length) (run0 d l x).2.2
    rw [← hrun] at he
    have hq : ∃ e', (walkP d l (x ++ y)).2.2 = (run0 d l x).2.2.out ++ e' := by
      rw [hQ]
      cases decide ((run0 d l (x ++ y)).1 = 0)
      · exact ⟨e, he⟩
      · rcases end_grow (run0 d l (x ++ y)).2.2.u (run0 d l (x ++ y)).2.2.s (x ++ y).length (run0 d l (x ++ y)).2.2.m (run0 d l (x ++ y)).2.2.out with ⟨h1, _⟩ | ⟨_, r, h1⟩
        · exact ⟨e, h1.trans he⟩
        · exact ⟨e ++ [r], by show (endOf _ _).2.2.2 = _; unfold endOf; rw [h1, he, List.append_assoc]⟩
    obtain ⟨e', hq⟩ := hq
    rcases end_grow (run0 d l x).2.2.u (run0 d l x).2.2.s x.length (run0 d l x).2.2.m (run0 d l x).2.2.out with ⟨h1, h2⟩ | ⟨h1, r, h2⟩
    · have hPo : (walkP d l x).2.2 = (run0 d l x).2.2.out := by rw [hP]; exact h1
      refine ⟨fun hk hlt => ?_, fun n _ hn => ?_⟩
      · exfalso
        have : (walkP d l x).2.1 = x.length := by rw [hP] at hk ⊢; exact h2 hk
        omega
      · rw [hPo] at hn ⊢; rw [hq]; exact take_pre _ _ n hn
    · have hPo : (walkP d l x).2.2 = (run0 d l x).2.2.out ++ [r] := by rw [hP]; exact h2
      have hPk : (walkP d l x).1 = 0 := by rw [hP]; exact h1
      refine ⟨fun hk => absurd hPk hk, fun n hn _ => ?_⟩
      have hn' : n ≤ (run0 d l x).2.2.out.length := by
        rcases hn hPk with h | h
        · rw [hPo, List.length_append] at h; simp at h; exact h
        · omega
      rw [hPo, hq, List.take_append_of_le_length hn']
      exact take_pre _ _ n hn'
  · rw [decide_eq_false h0] at hP hrun
    simp only [cond_false] at hP hrun
    rw [hrun, decide_eq_false h0] at hQ
    simp only [cond_false] at hQ
    rw [hP, hQ]
    exact ⟨fun _ _ => ⟨rfl, rfl⟩, fun n _ hn => ⟨hn, rfl⟩⟩
end Go.Proofs.YtmdgkchphmncpaaDoor
