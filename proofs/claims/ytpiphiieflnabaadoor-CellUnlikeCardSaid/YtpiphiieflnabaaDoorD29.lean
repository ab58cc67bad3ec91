/- CellUnlike: what the law computes, and that it is true. Conditions: the table of UTF-8 is known. -/
import Derived.Test.YtpiphiieflnabaaDoorD28
namespace Go.Proofs.YtpiphiieflnabaaDoor
open Go Go.Abs
set_option maxRecDepth 100000
variable {e : Option Value}
theorem unlike_ev (k : Int) (s : List UInt8) (n : Int) (b : Bool) (k' : Int) (s' : List UInt8) (n' : Int) (b' : Bool) (nm : List UInt8) (ck : Int) (nl : Bool) :
    (evFn (ctx Tryd.prog (G0 (E2 e)) (m3 e)) noL Tryd.f3 [.agg [.int .i64 k, .str s, .int .i64 n, .bool b], .agg [.int .i64 k', .str s', .int .i64 n', .bool b'], .agg [.str nm, .int .i64 ck, .bool nl]] []).get =
    cond (decide (200 < (s.length : Int))) (bo true) (cond (decide (200 < (s'.length : Int))) (bo true) (cond (decide (([92] : List UInt8).length + s.length ≤ LIM) && inR n) (cond (decide (([92] : List UInt8).length + s'.length ≤ LIM) && inR n')
      (cond (!decide ((encP k s n b ck nl).2 = 0)) (bo true) (cond (!decide ((encP k' s' n' b' ck nl).2 = 0)) (bo true)
        (cond (decide ((encP k s n b ck nl).1 = (encP k' s' n' b' ck nl).1) == (decide (k = k') && (decide (s = s') && (decide (n = n') && ((b == b') && true))))) (bo true) (bo false)))) none) none)) := by kernel_rfl
theorem lenOK {s : List UInt8} (h : ¬ (200 : Int) < (s.length : Int)) : decide (([92] : List UInt8).length + s.length ≤ LIM) = true :=
  decide_eq_true (by simp only [List.length_cons, List.length_nil]; unfold LIM; omega)
theorem unlike_true (k : Int) (s : List UInt8) (n : Int) (b : Bool) (k' : Int) (s' : List UInt8) (n' : Int) (b' : Bool) (nm : List UInt8) (ck : Int) (nl : Bool) (h : inR n = true) (h' : inR n' = true) :
    (evFn (ctx Tryd.prog (G0 (E2 e)) (m3 e)) noL Tryd.f3 [.agg [.int .i64 k, .str s, .int .i64 n, .bool b], .agg [.int .i64 k', .str s', .int .i64 n', .bool b'], .agg [.str nm, .int .i64 ck, .bool nl]] []).get = some (.bool true, []) := by
  rw [unlike_ev]
  by_cases hl : (200 : Int) < (s.length : Int)
  · rw [decide_eq_true hl]; rfl
  · by_cases hl' : (200 : Int) < (s'.length : Int)
    · rw [decide_eq_false hl, decide_eq_true hl']; rfl
    · rw [decide_eq_false hl, decide_eq_false hl', lenOK hl, lenOK hl', h, h']
      by_cases h1 : (encP k s n b ck nl).2 = 0
      · by_cases h2 : (encP k' s' n' b' ck nl).2 = 0
        · have e : (decide ((encP k s n b ck nl).1 = (encP k' s' n' b' ck nl).1) == (decide (k = k') && (decide (s = s') && (decide (n = n') && ((b == b') && true))))) = true := by
            rw [beq_iff_eq, Bool.eq_iff_iff]
            simp only [decide_eq_true_eq, Bool.and_eq_true, beq_iff_eq, and_true]
            exact field_inj h1 h2
          rw [decide_eq_true h1, decide_eq_true h2, e]; rfl
        · rw [decide_eq_true h1, decide_eq_false h2]; rfl
      · rw [decide_eq_false h1]; rfl
end Go.Proofs.YtpiphiieflnabaaDoor
