/- Integers that are handed in lie in their range. Conditions: none. -/
import Derived.Test.YtpiphiieflnabaaDoorD07
import Derived.Test.YtpiphiieflnabaaDoorD18
namespace Go.Proofs.YtpiphiieflnabaaDoor
open Go Go.Abs
theorem wf64 {n : Int} (h : (Lit.int .i64 n).wf = true) : inR n = true := by
  rw [inR_iff]
  simpa [Lit.wf, IntKind.min, IntKind.max, IntKind.signed, IntKind.bits] using h
theorem wfAll {l : List Int} (h : ∀ x ∈ l, (Lit.int .i64 x).wf = true) : l.all inR = true := List.all_eq_true.2 fun x hx => wf64 (h x hx)
end Go.Proofs.YtpiphiieflnabaaDoor
