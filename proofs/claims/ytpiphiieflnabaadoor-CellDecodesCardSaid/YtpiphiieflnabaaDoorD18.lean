/- NumPrints, NumParses, NumLess, NumOrder: what the laws compute, and that they are true. Conditions: strconv.ErrRange holds an interface value. -/
import Derived.Test.YtpiphiieflnabaaDoorD17
namespace Go.Proofs.YtpiphiieflnabaaDoor
open Go Go.Abs
set_option maxRecDepth 100000
variable {v : Value} {u : Option (List AV)}
abbrev E1 (v : Value) (u : Option (List AV)) : Env := ⟨some v, u⟩

theorem prints_ev (n : Int) : (evFn (ctx Tryd.prog (G0 (E1 v u)) (n5 (E1 v u))) noL Tryd.f8 [.int .i64 n] []).get =
    cond (inR n) (cond (decide ((Lib.itoa n).length ≤ LIM)) (cond (inR n) (cond (decide (Lib.itoa n = Lib.itoa n)) (cond (decide ((parseP (Lib.itoa n)).1 = n)) (cond (decide ((parseP (Lib.itoa n)).2 = 0)) (bo true) (bo false)) (bo false)) (bo false)) none) none) none := by kernel_rfl
theorem itoa_lim {n : Int} (h : inR n = true) : decide ((Lib.itoa n).length ≤ LIM) = true := by
  rw [inR_iff] at h
  have := itoa_len (n := n) (k := 20) (by omega) (by omega)
  exact decide_eq_true (by unfold LIM; omega)
theorem parse_itoa {n : Int} (h : inR n = true) : parseP (Lib.itoa n) = (n, 0) := by
  unfold parseP
  rw [itoa_form, itoa_val, h]; rfl
theorem prints_true (n : Int) (h : inR n = true) : (evFn (ctx Tryd.prog (G0 (E1 v u)) (n5 (E1 v u))) noL Tryd.f8 [.int .i64 n] []).get = some (.bool true, []) := by
  rw [prints_ev, h, itoa_lim h, parse_itoa h, decide_eq_true (rfl : Lib.itoa n = Lib.itoa n)]
  simp only [cond_true, decide_true]; rfl

theorem parses_ev (s : List UInt8) : (evFn (ctx Tryd.prog (G0 (E1 v u)) (n5 (E1 v u))) noL Tryd.f7 [.str s] []).get =
    cond (decide (100 < (s.length : Int))) (bo true) (cond (decide (s.length ≤ LIM)) (cond (decide (s.length ≤ LIM)) (cond (!decide ((parseP s).1 = (parseP s).1)) (bo false) (cond (!decide ((parseP s).2 = (parseP s).2)) (bo false)
      (cond (decide (s.length ≤ LIM)) (cond (decide (s.length ≤ LIM)) (cond (!(form s == form s)) (bo false) (cond (!decide ((parseP s).2 = 0)) (bo true) (cond (inR (parseP s).1) (cond (decide (Lib.itoa (parseP s).1 = s)) (bo true) (bo false)) none))) none) none))) none) none) := by kernel_rfl
theorem parses_true (s : List UInt8) : (evFn (ctx Tryd.prog (G0 (E1 v u)) (n5 (E1 v u))) noL Tryd.f7 [.str s] []).get = some (.bool true, []) := by
  rw [parses_ev]
  by_cases hl : (100 : Int) < (s.length : Int)
  · rw [decide_eq_true hl]; rfl
  · rw [decide_eq_false hl, decide_eq_true (show s.length ≤ LIM by unfold LIM; omega), decide_eq_true (rfl : (parseP s).1 = (parseP s).1), decide_eq_true (rfl : (parseP s).2 = (parseP s).2)]
    simp only [cond_true, cond_false, beq_self_eq_true, Bool.not_true]
    unfold parseP
    cases hf : form s with
    | false => rfl
    | true =>
      cases hr : inR (numV s) with
      | false => rfl
      | true =>
        simp only [cond_true, decide_true, Bool.not_true, cond_false]
        simp only [hr, itoa_of hf, decide_true, cond_true]; rfl

def lessTail (x y : Bool) : Option (AV × Store) := cond x (cond (!y) (bo true) (bo false)) (cond (!false) (bo true) (bo false))
theorem numLess_ev (a b : List UInt8) : (evFn (ctx Tryd.prog (G0 (E1 v u)) (n5 (E1 v u))) noL Tryd.f9 [.str a, .str b] []).get =
    cond (decide (100 < (a.length : Int))) (bo true) (cond (decide (100 < (b.length : Int))) (bo true)
      (cond (decide (a.length ≤ LIM) && decide (b.length ≤ LIM)) (cond (decide (b.length ≤ LIM) && decide (a.length ≤ LIM)) (cond (decide (a.length ≤ LIM) && decide (b.length ≤ LIM)) (cond (!(lessN a b == lessN a b)) (bo false)
        (cond (decide (b.length ≤ LIM) && decide (a.length ≤ LIM)) (cond (!(lessN b a == lessN b a)) (bo false) (cond (decide (a.length ≤ LIM)) (cond (form a)
          (cond (decide (b.length ≤ LIM)) (cond (!form b) (lessTail (lessN a b) (lessN b a)) (cond ((!(lessN a b == lessN b a)) == (!decide (a = b))) (lessTail (lessN a b) (lessN b a)) (bo false))) none)
          (cond (!false) (lessTail (lessN a b) (lessN b a)) (cond ((!(lessN a b == lessN b a)) == (!decide (a = b))) (lessTail (lessN a b) (lessN b a)) (bo false)))) none)) none)) none) none) none)) := by kernel_rfl
theorem lessTail_true {x y : Bool} (h : ¬ (x = true ∧ y = true)) : lessTail x y = bo true := by
  cases x <;> cases y <;> first | rfl | exact absurd ⟨rfl, rfl⟩ h
theorem numLess_true (a b : List UInt8) : (evFn (ctx Tryd.prog (G0 (E1 v u)) (n5 (E1 v u))) noL Tryd.f9 [.str a, .str b] []).get = some (.bool true, []) := by
  rw [numLess_ev]
  by_cases hl : (100 : Int) < (a.length : Int)
  · rw [decide_eq_true hl]; rfl
  · by_cases hl2 : (100 : Int) < (b.length : Int)
    · rw [decide_eq_false hl, decide_eq_true hl2]; rfl
    · rw [decide_eq_false hl, decide_eq_false hl2, decide_eq_true (show a.length ≤ LIM by unfold LIM; omega), decide_eq_true (show b.length ≤ LIM by unfold LIM; omega)]
      have key : form a = true → form b = true → lessN a b = decide (numV a < numV b) ∧ lessN b a = decide (numV b < numV a) := by
        intro ha hb
        unfold lessN
        rw [ha, hb, lessS_val ha hb, lessS_val hb ha]; exact ⟨rfl, rfl⟩
      have ht : lessTail (lessN a b) (lessN b a) = bo true := by
        refine lessTail_true fun h => ?_
        have ha : form a = true := by have := h.1; unfold lessN at this; simp only [Bool.and_eq_true] at this; exact this.1
        have hb : form b = true := by have := h.1; unfold lessN at this; simp only [Bool.and_eq_true] at this; exact this.2.1
        rw [(key ha hb).1, (key ha hb).2] at h
        simp only [decide_eq_true_eq] at h
        omega
      rw [ht]
      cases ha : form a with
      | false => simp only [beq_self_eq_true, Bool.not_true, cond_false, cond_true, Bool.and_self, Bool.not_false]; rfl
      | true =>
        cases hb : form b with
        | false => simp only [beq_self_eq_true, Bool.not_true, cond_false, cond_true, Bool.and_self, Bool.not_false]; rfl
        | true =>
          have e : ((!(lessN a b == lessN b a)) == (!decide (a = b))) = true := by
            rw [(key ha hb).1, (key ha hb).2]
            by_cases hab : a = b
            · subst hab; simp
            · have : numV a ≠ numV b := fun h => hab (numV_inj ha hb h)
              rw [decide_eq_false hab]
              by_cases h1 : numV a < numV b
              · rw [decide_eq_true h1, decide_eq_false (by omega : ¬ numV b < numV a)]; rfl
              · rw [decide_eq_false h1, decide_eq_true (by omega : numV b < numV a)]; rfl
          rw [e]
          simp only [beq_self_eq_true, Bool.not_true, cond_false, cond_true, Bool.and_self]; rfl

theorem numOrder_ev (a b : Int) : (evFn (ctx Tryd.prog (G0 (E1 v u)) (n5 (E1 v u))) noL Tryd.f10 [.int .i64 a, .int .i64 b] []).get =
    cond (inR a) (cond (inR b) (cond (decide ((Lib.itoa a).length ≤ LIM) && decide ((Lib.itoa b).length ≤ LIM)) (cond (lessN (Lib.itoa a) (Lib.itoa b) == decide (a < b)) (bo true) (bo false)) none) none) none := by kernel_rfl
theorem numOrder_true (a b : Int) (ha : inR a = true) (hb : inR b = true) : (evFn (ctx Tryd.prog (G0 (E1 v u)) (n5 (E1 v u))) noL Tryd.f10 [.int .i64 a, .int .i64 b] []).get = some (.bool true, []) := by
  rw [numOrder_ev, ha, hb, itoa_lim ha, itoa_lim hb]
  unfold lessN
  rw [itoa_form, itoa_form, lessS_val (itoa_form a) (itoa_form b), itoa_val, itoa_val]
  simp only [Bool.true_and, Bool.and_self, cond_true, beq_self_eq_true]; rfl
end Go.Proofs.YtpiphiieflnabaaDoor
