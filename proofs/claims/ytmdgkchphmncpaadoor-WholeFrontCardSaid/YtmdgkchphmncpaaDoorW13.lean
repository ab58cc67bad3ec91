/- WholeFront: the mark cut; the law's answer. (under way) -/
import Derived.Test.YtmdgkchphmncpaaDoorW11
import Derived.Test.YtmdgkchphmncpaaDoorW12
namespace Go.Proofs.YtmdgkchphmncpaaDoor
open Go Go.Abs
set_option maxRecDepth 100000

theorem plain_lt {b : Int} (h : plainB b = true) : b < 128 := by
  unfold plainB at h
  simp only [Bool.and_eq_true, decide_eq_true_eq] at h; exact h.1
theorem right_lt {d : D3} (h : rightD d.1 d.2.1 d.2.2 = true) : d.1 < 128 ∧ d.2.1 < 128 := by
  unfold rightD at h
  simp only [Bool.and_eq_true] at h
  exact ⟨plain_lt h.1, plain_lt h.2.1⟩
def evB (x : Bool) (b : Int) : Evt := (x, true, false, false, false, b)
theorem scan_high {d : D3} (h : rightD d.1 d.2.1 d.2.2 = true) {s b : Int} (hs : s = 0 ∨ s = 2) (hb : 128 ≤ b) : scanD d s b = (evB (decide (s = 0)) b, 2, 0) := by
  obtain ⟨h1, h2⟩ := right_lt h
  have e1 : decide (b = d.2.1) = false := decide_eq_false (by omega)
  have e2 : decide (b = d.1) = false := decide_eq_false (by omega)
  have e3 : decide (b = 13) = false := decide_eq_false (by omega)
  have e4 : decide (b = 10) = false := decide_eq_false (by omega)
  unfold scanD scanP s7P
  rw [e1, e2, e3, e4]
  rcases hs with rfl | rfl <;> rfl
theorem small0 {d : D3} (h : rightD d.1 d.2.1 d.2.2 = true) : walkP d wideL [] = (0, 0, []) := by
  unfold walkP; rw [h]; rfl
def m1 : Mk := (takeE (evB true 239) (newM 2147483648 2147483648 2147483648 false)).1
theorem next1 {d : D3} (h : rightD d.1 d.2.1 d.2.2 = true) : wNext d 0 0 (wk0 wideL) 239 = (0, ⟨2, 2, m1, []⟩) := by
  have e := scan_high h (s := (wk0 wideL).s) (b := 239) (.inl rfl) (by omega)
  unfold wNext
  rw [show utfP (wk0 wideL).u 239 = some 2 from rfl]
  dsimp only
  rw [e]
  rfl
theorem next2 {d : D3} (h : rightD d.1 d.2.1 d.2.2 = true) : wNext d 0 1 ⟨2, 2, m1, []⟩ 187 = (0, ⟨1, 2, (takeE (evB false 187) m1).1, []⟩) := by
  have e := scan_high h (s := 2) (b := 187) (.inr rfl) (by omega)
  unfold wNext
  rw [show utfP 2 187 = some 1 from rfl]
  dsimp only
  rw [e]
  rfl
theorem small1 {d : D3} (h : rightD d.1 d.2.1 d.2.2 = true) : walkP d wideL [239] = (12, 1, []) := by
  have e : run0 d wideL [239] = (0, 1, ⟨2, 2, m1, []⟩) := by
    unfold run0
    rw [wRun_cons]
    show cond (decide ((wNext d 0 0 (wk0 wideL) 239).1 = 0)) (wRun d 0 (0 + 1) [] (wNext d 0 0 (wk0 wideL) 239).2) _ = _
    rw [next1 h]; rfl
  unfold walkP; rw [h, e]; rfl
theorem small2 {d : D3} (h : rightD d.1 d.2.1 d.2.2 = true) : walkP d wideL [239, 187] = (12, 2, []) := by
  have e : run0 d wideL [239, 187] = (0, 2, ⟨1, 2, (takeE (evB false 187) m1).1, []⟩) := by
    unfold run0
    rw [wRun_cons]
    show cond (decide ((wNext d 0 0 (wk0 wideL) 239).1 = 0)) (wRun d 0 (0 + 1) [187] (wNext d 0 0 (wk0 wideL) 239).2) _ = _
    rw [next1 h, wRun_cons]
    show cond (decide ((wNext d 0 1 ⟨2, 2, m1, []⟩ 187).1 = 0)) (wRun d 0 (1 + 1) [] (wNext d 0 1 ⟨2, 2, m1, []⟩ 187).2) _ = _
    rw [next2 h]; rfl
  unfold walkP; rw [h, e]; rfl
theorem nil_front {P Q : Int × Int × List (List (List UInt8))} {k : Int} (h1 : P.2.2 = []) (h2 : P.1 ≠ 0 → ¬ P.2.1 < k) : FrontOK P Q k :=
  ⟨fun h h' => absurd h' (h2 h), fun n _ hn => by rw [h1] at hn; simp at hn; subst hn; simp⟩
theorem first_eq (t : List UInt8) (hl : t.length ≤ 300) : firstOfT t = cond (marked t) 3 0 := by
  unfold firstOfT
  cases hm : marked t with
  | false => simp only [cond_false]; rw [show (t.length : Int) - t.length = 0 by omega]; rfl
  | true =>
    have h3 : 3 ≤ t.length := by
      unfold marked at hm; simp only [Bool.and_eq_true, decide_eq_true_eq] at hm; exact hm.1
    simp only [cond_true, List.length_drop]
    rw [show (t.length : Int) - ((t.length - 3 : Nat) : Int) = 3 by omega]; rfl
theorem front_all {d : D3} (h : rightD d.1 d.2.1 d.2.2 = true) (t : List UInt8) (k : Nat) (hk : k ≤ t.length) (hl : t.length ≤ 300) : FrontOK (walkP d wideL (t.take k)) (walkP d wideL t) k := by
  have hlen : (t.take k).length = k := by rw [List.length_take]; omega
  by_cases hm : marked t = marked (t.take k)
  · have := front_of (x := t.take k) (y := t.drop k) (l := wideL) h rfl (by rw [List.take_append_drop, first_eq _ (by rw [hlen]; omega), first_eq _ hl, hm])
    rw [List.take_append_drop, hlen] at this
    exact this
  · have hk3 : k < 3 := by
      refine Classical.byContradiction fun hn => hm ?_
      unfold marked
      rw [hlen, List.take_take, Nat.min_eq_left (by omega), decide_eq_true (by omega : 3 ≤ t.length), decide_eq_true (by omega : 3 ≤ k)]
    have hmt : marked t = true := by
      cases hmt : marked t with
      | true => rfl
      | false =>
        exfalso; apply hm
        rw [hmt]; unfold marked
        rw [hlen, decide_eq_false (by omega : ¬ 3 ≤ k)]; rfl
    have h3 : t.take 3 = [239, 187, 191] := by
      unfold marked at hmt; simp only [Bool.and_eq_true, decide_eq_true_eq] at hmt; exact hmt.2
    have htk : t.take k = ([239, 187, 191] : List UInt8).take k := by rw [← h3, List.take_take, Nat.min_eq_left (by omega)]
    rw [htk]
    have : k = 0 ∨ k = 1 ∨ k = 2 := by omega
    rcases this with rfl | rfl | rfl
    · exact nil_front (by show (walkP d wideL []).2.2 = []; rw [small0 h]) (by show (walkP d wideL []).1 ≠ 0 → _; rw [small0 h]; intro h; exact absurd rfl h)
    · exact nil_front (by show (walkP d wideL [239]).2.2 = []; rw [small1 h]) (by show _ → ¬ (walkP d wideL [239]).2.1 < _; rw [small1 h]; intro _; simp)
    · exact nil_front (by show (walkP d wideL [239, 187]).2.2 = []; rw [small2 h]) (by show _ → ¬ (walkP d wideL [239, 187]).2.1 < _; rw [small2 h]; intro _; simp)
end Go.Proofs.YtmdgkchphmncpaaDoor
