/- The package-level tables of this seat, as the rows list them; a world for the witnesses. Conditions: none. -/
import Derived.Test.YtpiphiieflnabaaDoorCards
import Derived.Test.YtpiphiieflnabaaDoorTie
import Derived.WalkKit
import Derived.ProofKit
import Derived.OpenShut
import Derived.Deep.DeepHandedRow
import Derived.Deep.DeepWitnessRowRef
import Derived.Deep.DeepLaidRun
import Derived.Test.YtpiphiieflnabaaDoorD01
namespace Go.Proofs.YtpiphiieflnabaaDoor
open Go Go.Abs
set_option maxRecDepth 100000

def numsOf : DataW Unit → List Value
  | .agg ps => ps.map fun d => match d with | .lit (.int k n) => Value.int k n | _ => undef
  | _ => []
def spansOf : DataW Unit → List (List Value)
  | .agg ss => ss.map fun d => match d with | .slice es _ => es.flatMap numsOf | _ => []
  | _ => []
def textOf : DataW Unit → List Value
  | .iface _ (.ptr (.agg [.lit (.string s)])) => [.string ⟨s.toArray⟩]
  | _ => []
def putG (h : Array Obj) (g : Nat) (cs : List Value) : Array Obj := h.modify g fun o =>
  match o with
  | .cells _ t frozen => .cells cs.toArray t frozen
  | o => o
/-- A world for the witness: the tables and the two errors hold what their initialisers lay. -/
noncomputable def laidWorld (os : Os) : World :=
  let N := (World.settled Tryd.prog os).heap.size
  let sp := spansOf Rows.laid_quillpen_utf_table
  let w0 := World.holding Tryd.prog os ⟨(sp.map fun cs => Obj.cells cs.toArray 129).toArray ++ #[Obj.cells (textOf Rows.laid_strconv_ErrSyntax).toArray 124, Obj.cells (textOf Rows.laid_strconv_ErrRange).toArray 124], #[], []⟩
  { w0 with heap := putG (putG (putG (putG (putG (putG w0.heap 4 (mapI (fun i cs => Value.slice (some ⟨N + i, 0, none⟩) (cs.length / 3) (cs.length / 3)) 0 sp)) 5 (numsOf Rows.laid_math_bits_deBruijn32tab)) 6 (numsOf Rows.laid_math_bits_deBruijn64tab)) 3 (numsOf Rows.laid_internal_strconv_uint64pow10))
      1 [.iface 122 (.pointer (some ⟨N + 8, 0, none⟩))]) 2 [.iface 122 (.pointer (some ⟨N + 9, 0, none⟩))] }

theorem own : ownKnob Tryd.prog.godebug = none := by kernel_rfl
theorem laidB : laidOutB Tryd.prog = true := by kernel_rfl
theorem maps : mapsRowed Tryd.prog = true := by kernel_rfl
theorem elems : elemsB Tryd.prog = true := by kernel_rfl

def laid4 : List (String × DataW Unit) := [("math/bits.deBruijn32tab", Rows.laid_math_bits_deBruijn32tab), ("math/bits.deBruijn64tab", Rows.laid_math_bits_deBruijn64tab), ("internal/strconv.uint64pow10", Rows.laid_internal_strconv_uint64pow10), ("quillpen/utf.table", Rows.laid_quillpen_utf_table)]
theorem pow10_flat : (Lib.pow10Tab.map fun z => AV.int .u64 z) = (Lib.pow10Tab : List (EK.int .u64).α).flatMap (EK.int .u64).enc := by kernel_rfl
theorem pow10G {W : World} {r : List (String × DataW Unit)} (h : laidMet Tryd.prog (("internal/strconv.uint64pow10", Rows.laid_internal_strconv_uint64pow10) :: r) W) : GlobOK W (SS noF noN []) 3 (Lib.pow10Tab.map fun z => .int .u64 z) := by
  rw [pow10_flat]
  exact glob_ok (n := 4) (k := .int .u64) (rest := r) (t := 115) (by kernel_rfl) (by kernel_rfl) Tryd.underlying115 (by kernel_rfl) (by kernel_rfl) (by kernel_rfl) (by kernel_rfl) h ss_none
theorem utfG {W : World} {r : List (String × DataW Unit)} (h : laidMet Tryd.prog (("quillpen/utf.table", Rows.laid_quillpen_utf_table) :: r) W) : GlobOK W (SS noF noN []) 4 utfT :=
  glob_ok (n := 4) (k := .seq spanK) (rest := r) (t := 127) (by kernel_rfl) (by kernel_rfl) Tryd.underlying127 (by kernel_rfl) (by kernel_rfl) (by kernel_rfl) (by kernel_rfl) h ss_none
/-- What a row's list gives, where the errors are not needed. -/
theorem tab4 {W : World} (h : laidMet Tryd.prog laid4 W) : ∀ g cs, G0 ⟨none, some utfT⟩ g = some cs → GlobOK W (SS noF noN []) g cs := by
  intro g cs hg
  unfold G0 at hg
  split at hg
  · cases hg
  · cases hg; exact pow10G h.tail.tail
  · cases hg; exact utfG h.tail.tail.tail
  · cases hg
theorem star : "*" ++ "errors.errorString" = "*errors.errorString" := by decide
theorem row122 (u : TypeId) (h : Tryd.prog.typeName? 3 u = some "*errors.errorString") : u = 122 :=
  typeName_ptr_named (nm := "errors.errorString") (by rw [star]; kernel_rfl) (by kernel_rfl) (by decide) u (by rw [star]; exact h)
theorem errG {W : World} {r : List (String × DataW Unit)} (h : laidMet Tryd.prog (("strconv.ErrRange", Rows.laid_strconv_ErrRange) :: r) W) : ∃ v, (∃ te pe, v = Value.iface te pe) ∧ GlobOK W (SS noF noN []) 2 [.lit v] := by
  obtain ⟨a, s, h1, -, -, -⟩ := laid_sentinel (g := 2) (ti := 80) (tp := 122) (te := 124) (ts := 9) h (by kernel_rfl) (by kernel_rfl) Tryd.underlying80 row122 Tryd.underlying122 Tryd.underlying124 rfl rfl Tryd.underlying9 (by kernel_rfl) (by kernel_rfl)
  exact ⟨_, ⟨_, _, rfl⟩, glob_one (by kernel_rfl) h1 (ss_none _)⟩
def laid5 : List (String × DataW Unit) := [("math/bits.deBruijn32tab", Rows.laid_math_bits_deBruijn32tab), ("math/bits.deBruijn64tab", Rows.laid_math_bits_deBruijn64tab), ("internal/strconv.uint64pow10", Rows.laid_internal_strconv_uint64pow10), ("strconv.ErrRange", Rows.laid_strconv_ErrRange), ("strconv.ErrSyntax", Rows.laid_strconv_ErrSyntax)]
/-- What a row's list gives, where the table of UTF-8 is not needed. -/
theorem tab5 {W : World} (h : laidMet Tryd.prog laid5 W) : ∃ v, (∃ te pe, v = Value.iface te pe) ∧ ∀ g cs, G0 ⟨some v, none⟩ g = some cs → GlobOK W (SS noF noN []) g cs := by
  obtain ⟨v, hv, h2⟩ := errG h.tail.tail.tail
  refine ⟨v, hv, fun g cs hg => ?_⟩
  unfold G0 at hg
  split at hg
  · cases hg; exact h2
  · cases hg; exact pow10G h.tail.tail
  · cases hg
  · cases hg
def laid6 : List (String × DataW Unit) := [("math/bits.deBruijn32tab", Rows.laid_math_bits_deBruijn32tab), ("math/bits.deBruijn64tab", Rows.laid_math_bits_deBruijn64tab), ("internal/strconv.uint64pow10", Rows.laid_internal_strconv_uint64pow10), ("quillpen/utf.table", Rows.laid_quillpen_utf_table), ("strconv.ErrRange", Rows.laid_strconv_ErrRange), ("strconv.ErrSyntax", Rows.laid_strconv_ErrSyntax)]
/-- What a row's list gives, all of it. -/
theorem tab6 {W : World} (h : laidMet Tryd.prog laid6 W) : ∃ v, (∃ te pe, v = Value.iface te pe) ∧ ∀ g cs, G0 ⟨some v, some utfT⟩ g = some cs → GlobOK W (SS noF noN []) g cs := by
  obtain ⟨v, hv, h2⟩ := errG h.tail.tail.tail.tail
  refine ⟨v, hv, fun g cs hg => ?_⟩
  unfold G0 at hg
  split at hg
  · cases hg; exact h2
  · cases hg; exact pow10G h.tail.tail
  · cases hg; exact utfG h.tail.tail.tail
  · cases hg
end Go.Proofs.YtpiphiieflnabaaDoor
