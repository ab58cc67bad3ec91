/-
  NARROWER THAN 'FOR EVERY INPUT', by the rows' own cells (each row's printed sentence says how): CellUnlike: laid · CellMakes: laid · CellOrder: laid · NumSums: laid · NumParses: laid · NumPrints: laid · NumLess: laid · NumOrder: laid · CellEncodes: laid · CellDecodes: laid.
  DERIVED. THE GIVEN ROWS OF THIS SEAT. 10 by the template 'for every input the law returns true; each argument reads behind the call as it read before'; 0 by the template 'total and deterministic' (their statements: YtpiphiieflnabaaDoorTotals.lean).
  GIVEN WITH THE SEED: the statements are not yours to turn. If you find one false, say at which input.
  Laid BY PROGRAM, IN A SANDBOX (cutbox-rows.mjs): the forced cells as the released guide's own fill.sh prints them over the translation 7a8ef63246c076d8… (all of the seat's roots in one cut). By AI agents, Wed Nov 11 2026. No macro, syntax, notation, axiom, sorry.
-/
import Derived.Test.YtpiphiieflnabaaDoorChecked
import GoSem.Claim
import GoSem.ClaimJoined
import GoSem.ClaimMapViews
import Derived.JoinedTies
import Derived.KernelRfl
namespace Go.Proofs.YtpiphiieflnabaaDoor
/- THE CELL 'sum', in the pinned program and in every row, IS THE sha256 OF THE DUMP (.gsa) THAT YtpiphiieflnabaaDoorProg.lean LOADS. Nothing in Lean hashes anything: it is a label: what it is worth is what the hold of that sum in a sandbox is worth. -/
noncomputable def Tryd.pinned : Pinned := { name := "ytpiphiieflnabaadoor", sum := "7a8ef63246c076d8a5e38f5bdbb4049345d493fa6c7ce6dcba967ceac5164c13", checked := Tryd.checked }
namespace Rows
def none {H : Type} : Left H := { results := [], args := [] }

/- WHAT THE LISTED PACKAGE-LEVEL VARIABLES READ AS WHEN THE CALL BEGINS. Each datum BY PROGRAM (the guide's laid-datum.mjs) off the statement by which the dump's own 'gosem.cut.vars' lays the variable. In a bare row this is a premise. The card (YtpiphiieflnabaaDoorCards.lean) ties it to the program's text. -/
def laid_math_bits_deBruijn32tab {H : Type} : DataW H := .agg [.lit (.int .u8 0), .lit (.int .u8 1), .lit (.int .u8 28), .lit (.int .u8 2), .lit (.int .u8 29), .lit (.int .u8 14), .lit (.int .u8 24), .lit (.int .u8 3), .lit (.int .u8 30), .lit (.int .u8 22), .lit (.int .u8 20), .lit (.int .u8 15), .lit (.int .u8 25), .lit (.int .u8 17), .lit (.int .u8 4), .lit (.int .u8 8), .lit (.int .u8 31), .lit (.int .u8 27), .lit (.int .u8 13), .lit (.int .u8 23), .lit (.int .u8 21), .lit (.int .u8 19), .lit (.int .u8 16), .lit (.int .u8 7), .lit (.int .u8 26), .lit (.int .u8 12), .lit (.int .u8 18), .lit (.int .u8 6), .lit (.int .u8 11), .lit (.int .u8 5), .lit (.int .u8 10), .lit (.int .u8 9)]
def laid_math_bits_deBruijn64tab {H : Type} : DataW H := .agg [.lit (.int .u8 0), .lit (.int .u8 1), .lit (.int .u8 56), .lit (.int .u8 2), .lit (.int .u8 57), .lit (.int .u8 49), .lit (.int .u8 28), .lit (.int .u8 3), .lit (.int .u8 61), .lit (.int .u8 58), .lit (.int .u8 42), .lit (.int .u8 50), .lit (.int .u8 38), .lit (.int .u8 29), .lit (.int .u8 17), .lit (.int .u8 4), .lit (.int .u8 62), .lit (.int .u8 47), .lit (.int .u8 59), .lit (.int .u8 36), .lit (.int .u8 45), .lit (.int .u8 43), .lit (.int .u8 51), .lit (.int .u8 22), .lit (.int .u8 53), .lit (.int .u8 39), .lit (.int .u8 33), .lit (.int .u8 30), .lit (.int .u8 24), .lit (.int .u8 18), .lit (.int .u8 12), .lit (.int .u8 5), .lit (.int .u8 63), .lit (.int .u8 55), .lit (.int .u8 48), .lit (.int .u8 27), .lit (.int .u8 60), .lit (.int .u8 41), .lit (.int .u8 37), .lit (.int .u8 16), .lit (.int .u8 46), .lit (.int .u8 35), .lit (.int .u8 44), .lit (.int .u8 21), .lit (.int .u8 52), .lit (.int .u8 32), .lit (.int .u8 23), .lit (.int .u8 11), .lit (.int .u8 54), .lit (.int .u8 26), .lit (.int .u8 40), .lit (.int .u8 15), .lit (.int .u8 34), .lit (.int .u8 20), .lit (.int .u8 31), .lit (.int .u8 10), .lit (.int .u8 25), .lit (.int .u8 14), .lit (.int .u8 19), .lit (.int .u8 9), .lit (.int .u8 13), .lit (.int .u8 8), .lit (.int .u8 7), .lit (.int .u8 6)]
def laid_internal_strconv_uint64pow10 {H : Type} : DataW H := .agg [.lit (.int .u64 1), .lit (.int .u64 10), .lit (.int .u64 100), .lit (.int .u64 1000), .lit (.int .u64 10000), .lit (.int .u64 100000), .lit (.int .u64 1000000), .lit (.int .u64 10000000), .lit (.int .u64 100000000), .lit (.int .u64 1000000000), .lit (.int .u64 10000000000), .lit (.int .u64 100000000000), .lit (.int .u64 1000000000000), .lit (.int .u64 10000000000000), .lit (.int .u64 100000000000000), .lit (.int .u64 1000000000000000), .lit (.int .u64 10000000000000000), .lit (.int .u64 100000000000000000), .lit (.int .u64 1000000000000000000), .lit (.int .u64 10000000000000000000)]
def laid_quillpen_utf_table {H : Type} : DataW H := .agg [.slice [.agg [.lit (.int .u8 0), .lit (.int .u8 127), .lit (.int .i64 0)], .agg [.lit (.int .u8 194), .lit (.int .u8 223), .lit (.int .i64 1)], .agg [.lit (.int .u8 224), .lit (.int .u8 224), .lit (.int .i64 4)], .agg [.lit (.int .u8 225), .lit (.int .u8 236), .lit (.int .i64 2)], .agg [.lit (.int .u8 237), .lit (.int .u8 237), .lit (.int .i64 5)], .agg [.lit (.int .u8 238), .lit (.int .u8 239), .lit (.int .i64 2)], .agg [.lit (.int .u8 240), .lit (.int .u8 240), .lit (.int .i64 6)], .agg [.lit (.int .u8 241), .lit (.int .u8 243), .lit (.int .i64 3)], .agg [.lit (.int .u8 244), .lit (.int .u8 244), .lit (.int .i64 7)]] [], .slice [.agg [.lit (.int .u8 128), .lit (.int .u8 191), .lit (.int .i64 0)]] [], .slice [.agg [.lit (.int .u8 128), .lit (.int .u8 191), .lit (.int .i64 1)]] [], .slice [.agg [.lit (.int .u8 128), .lit (.int .u8 191), .lit (.int .i64 2)]] [], .slice [.agg [.lit (.int .u8 160), .lit (.int .u8 191), .lit (.int .i64 1)]] [], .slice [.agg [.lit (.int .u8 128), .lit (.int .u8 159), .lit (.int .i64 1)]] [], .slice [.agg [.lit (.int .u8 144), .lit (.int .u8 191), .lit (.int .i64 2)]] [], .slice [.agg [.lit (.int .u8 128), .lit (.int .u8 143), .lit (.int .i64 2)]] []]
def laid_strconv_ErrRange {H : Type} : DataW H := .iface "*errors.errorString" (.ptr (.agg [.lit (.string [118, 97, 108, 117, 101, 32, 111, 117, 116, 32, 111, 102, 32, 114, 97, 110, 103, 101])]))
def laid_strconv_ErrSyntax {H : Type} : DataW H := .iface "*errors.errorString" (.ptr (.agg [.lit (.string [105, 110, 118, 97, 108, 105, 100, 32, 115, 121, 110, 116, 97, 120])]))

/-- 'quillpenlaw17.CellUnlike': WHATEVER THE INPUT: true; the input reads as it did. -/
def cellUnlikeSpec : ChangeSpec := { name := "cellUnlike", fn := fun _ => fun
  | [d1, d2, d3] => { results := [.lit (.bool true)], args := [d1, d2, d3] }
  | _ => none }
def cellUnlikeRow : OpenClaim := { program := "ytpiphiieflnabaadoor", sum := "7a8ef63246c076d8a5e38f5bdbb4049345d493fa6c7ce6dcba967ceac5164c13", func := "quillpen/quillpenlaw17.CellUnlike", spec := "cellUnlike", named := ["quillpen/utf.table", "internal/strconv.uint64pow10", "math/bits.deBruijn32tab", "math/bits.deBruijn64tab"], apart := false, laid := [("math/bits.deBruijn32tab", laid_math_bits_deBruijn32tab), ("math/bits.deBruijn64tab", laid_math_bits_deBruijn64tab), ("internal/strconv.uint64pow10", laid_internal_strconv_uint64pow10), ("quillpen/utf.table", laid_quillpen_utf_table)] }
def CellUnlikeSaid : Prop := cellUnlikeRow.holds Tryd.pinned (OpenSpec.ofChange cellUnlikeSpec)

/-- ITS FALSE NEIGHBOUR: 'it returns false'. Refute it at one input. -/
def cellUnlikeWrong : ChangeSpec := { name := "cellUnlike", fn := fun _ => fun
  | [d1, d2, d3] => { results := [.lit (.bool false)], args := [d1, d2, d3] }
  | _ => none }
def CellUnlikeWrongFalsely : Prop := cellUnlikeRow.holds Tryd.pinned (OpenSpec.ofChange cellUnlikeWrong)

/-- 'quillpenlaw17.CellMakes': WHATEVER THE INPUT: true; the input reads as it did. -/
def cellMakesSpec : ChangeSpec := { name := "cellMakes", fn := fun _ => fun
  | [d1, d2, d3] => { results := [.lit (.bool true)], args := [d1, d2, d3] }
  | _ => none }
def cellMakesRow : OpenClaim := { program := "ytpiphiieflnabaadoor", sum := "7a8ef63246c076d8a5e38f5bdbb4049345d493fa6c7ce6dcba967ceac5164c13", func := "quillpen/quillpenlaw17.CellMakes", spec := "cellMakes", named := ["quillpen/utf.table", "internal/strconv.uint64pow10", "math/bits.deBruijn32tab", "math/bits.deBruijn64tab"], apart := false, laid := [("math/bits.deBruijn32tab", laid_math_bits_deBruijn32tab), ("math/bits.deBruijn64tab", laid_math_bits_deBruijn64tab), ("internal/strconv.uint64pow10", laid_internal_strconv_uint64pow10), ("quillpen/utf.table", laid_quillpen_utf_table)] }
def CellMakesSaid : Prop := cellMakesRow.holds Tryd.pinned (OpenSpec.ofChange cellMakesSpec)

/-- ITS FALSE NEIGHBOUR: 'it returns false'. Refute it at one input. -/
def cellMakesWrong : ChangeSpec := { name := "cellMakes", fn := fun _ => fun
  | [d1, d2, d3] => { results := [.lit (.bool false)], args := [d1, d2, d3] }
  | _ => none }
def CellMakesWrongFalsely : Prop := cellMakesRow.holds Tryd.pinned (OpenSpec.ofChange cellMakesWrong)

/-- 'quillpenlaw17.CellOrder': WHATEVER THE INPUT: true; the input reads as it did. -/
def cellOrderSpec : ChangeSpec := { name := "cellOrder", fn := fun _ => fun
  | [d1, d2, d3] => { results := [.lit (.bool true)], args := [d1, d2, d3] }
  | _ => none }
def cellOrderRow : OpenClaim := { program := "ytpiphiieflnabaadoor", sum := "7a8ef63246c076d8a5e38f5bdbb4049345d493fa6c7ce6dcba967ceac5164c13", func := "quillpen/quillpenlaw17.CellOrder", spec := "cellOrder", inPlace := ["internal/bytealg.abigen_runtime_cmpstring"], named := ["quillpen/utf.table", "internal/strconv.uint64pow10", "math/bits.deBruijn32tab", "math/bits.deBruijn64tab"], apart := false, laid := [("math/bits.deBruijn32tab", laid_math_bits_deBruijn32tab), ("math/bits.deBruijn64tab", laid_math_bits_deBruijn64tab), ("internal/strconv.uint64pow10", laid_internal_strconv_uint64pow10), ("quillpen/utf.table", laid_quillpen_utf_table)] }
def CellOrderSaid : Prop := cellOrderRow.holds Tryd.pinned (OpenSpec.ofChange cellOrderSpec)

/-- ITS FALSE NEIGHBOUR: 'it returns false'. Refute it at one input. -/
def cellOrderWrong : ChangeSpec := { name := "cellOrder", fn := fun _ => fun
  | [d1, d2, d3] => { results := [.lit (.bool false)], args := [d1, d2, d3] }
  | _ => none }
def CellOrderWrongFalsely : Prop := cellOrderRow.holds Tryd.pinned (OpenSpec.ofChange cellOrderWrong)

/-- 'quillpenlaw16.NumSums': WHATEVER THE INPUT: true; the input reads as it did. -/
def numSumsSpec : ChangeSpec := { name := "numSums", fn := fun _ => fun
  | [d] => { results := [.lit (.bool true)], args := [d] }
  | _ => none }
def numSumsRow : OpenClaim := { program := "ytpiphiieflnabaadoor", sum := "7a8ef63246c076d8a5e38f5bdbb4049345d493fa6c7ce6dcba967ceac5164c13", func := "quillpen/quillpenlaw16.NumSums", spec := "numSums", inPlace := ["math/bits.Add64"], named := ["strconv.ErrSyntax", "strconv.ErrRange", "internal/strconv.uint64pow10", "math/bits.deBruijn32tab", "math/bits.deBruijn64tab"], apart := false, laid := [("math/bits.deBruijn32tab", laid_math_bits_deBruijn32tab), ("math/bits.deBruijn64tab", laid_math_bits_deBruijn64tab), ("internal/strconv.uint64pow10", laid_internal_strconv_uint64pow10), ("strconv.ErrRange", laid_strconv_ErrRange), ("strconv.ErrSyntax", laid_strconv_ErrSyntax)] }
def NumSumsSaid : Prop := numSumsRow.holds Tryd.pinned (OpenSpec.ofChange numSumsSpec)

/-- ITS FALSE NEIGHBOUR: 'it returns false'. Refute it at one input. -/
def numSumsWrong : ChangeSpec := { name := "numSums", fn := fun _ => fun
  | [d] => { results := [.lit (.bool false)], args := [d] }
  | _ => none }
def NumSumsWrongFalsely : Prop := numSumsRow.holds Tryd.pinned (OpenSpec.ofChange numSumsWrong)

/-- 'quillpenlaw16.NumParses': WHATEVER THE INPUT: true; the input reads as it did. -/
def numParsesSpec : ChangeSpec := { name := "numParses", fn := fun _ => fun
  | [d] => { results := [.lit (.bool true)], args := [d] }
  | _ => none }
def numParsesRow : OpenClaim := { program := "ytpiphiieflnabaadoor", sum := "7a8ef63246c076d8a5e38f5bdbb4049345d493fa6c7ce6dcba967ceac5164c13", func := "quillpen/quillpenlaw16.NumParses", spec := "numParses", inPlace := ["math/bits.Add64"], named := ["strconv.ErrSyntax", "strconv.ErrRange", "internal/strconv.uint64pow10", "math/bits.deBruijn32tab", "math/bits.deBruijn64tab"], apart := false, laid := [("math/bits.deBruijn32tab", laid_math_bits_deBruijn32tab), ("math/bits.deBruijn64tab", laid_math_bits_deBruijn64tab), ("internal/strconv.uint64pow10", laid_internal_strconv_uint64pow10), ("strconv.ErrRange", laid_strconv_ErrRange), ("strconv.ErrSyntax", laid_strconv_ErrSyntax)] }
def NumParsesSaid : Prop := numParsesRow.holds Tryd.pinned (OpenSpec.ofChange numParsesSpec)

/-- ITS FALSE NEIGHBOUR: 'it returns false'. Refute it at one input. -/
def numParsesWrong : ChangeSpec := { name := "numParses", fn := fun _ => fun
  | [d] => { results := [.lit (.bool false)], args := [d] }
  | _ => none }
def NumParsesWrongFalsely : Prop := numParsesRow.holds Tryd.pinned (OpenSpec.ofChange numParsesWrong)

/-- 'quillpenlaw16.NumPrints': WHATEVER THE INPUT: true; the input reads as it did. -/
def numPrintsSpec : ChangeSpec := { name := "numPrints", fn := fun _ => fun
  | [d] => { results := [.lit (.bool true)], args := [d] }
  | _ => none }
def numPrintsRow : OpenClaim := { program := "ytpiphiieflnabaadoor", sum := "7a8ef63246c076d8a5e38f5bdbb4049345d493fa6c7ce6dcba967ceac5164c13", func := "quillpen/quillpenlaw16.NumPrints", spec := "numPrints", inPlace := ["math/bits.Add64"], recurses := true, named := ["internal/strconv.uint64pow10", "math/bits.deBruijn32tab", "math/bits.deBruijn64tab", "strconv.ErrSyntax", "strconv.ErrRange"], apart := false, laid := [("math/bits.deBruijn32tab", laid_math_bits_deBruijn32tab), ("math/bits.deBruijn64tab", laid_math_bits_deBruijn64tab), ("internal/strconv.uint64pow10", laid_internal_strconv_uint64pow10), ("strconv.ErrRange", laid_strconv_ErrRange), ("strconv.ErrSyntax", laid_strconv_ErrSyntax)] }
def NumPrintsSaid : Prop := numPrintsRow.holds Tryd.pinned (OpenSpec.ofChange numPrintsSpec)

/-- ITS FALSE NEIGHBOUR: 'it returns false'. Refute it at one input. -/
def numPrintsWrong : ChangeSpec := { name := "numPrints", fn := fun _ => fun
  | [d] => { results := [.lit (.bool false)], args := [d] }
  | _ => none }
def NumPrintsWrongFalsely : Prop := numPrintsRow.holds Tryd.pinned (OpenSpec.ofChange numPrintsWrong)

/-- 'quillpenlaw16.NumLess': WHATEVER THE INPUT: true; the input reads as it did. -/
def numLessSpec : ChangeSpec := { name := "numLess", fn := fun _ => fun
  | [d1, d2] => { results := [.lit (.bool true)], args := [d1, d2] }
  | _ => none }
def numLessRow : OpenClaim := { program := "ytpiphiieflnabaadoor", sum := "7a8ef63246c076d8a5e38f5bdbb4049345d493fa6c7ce6dcba967ceac5164c13", func := "quillpen/quillpenlaw16.NumLess", spec := "numLess", inPlace := ["math/bits.Add64"], named := ["strconv.ErrSyntax", "strconv.ErrRange", "internal/strconv.uint64pow10", "math/bits.deBruijn32tab", "math/bits.deBruijn64tab"], apart := false, laid := [("math/bits.deBruijn32tab", laid_math_bits_deBruijn32tab), ("math/bits.deBruijn64tab", laid_math_bits_deBruijn64tab), ("internal/strconv.uint64pow10", laid_internal_strconv_uint64pow10), ("strconv.ErrRange", laid_strconv_ErrRange), ("strconv.ErrSyntax", laid_strconv_ErrSyntax)] }
def NumLessSaid : Prop := numLessRow.holds Tryd.pinned (OpenSpec.ofChange numLessSpec)

/-- ITS FALSE NEIGHBOUR: 'it returns false'. Refute it at one input. -/
def numLessWrong : ChangeSpec := { name := "numLess", fn := fun _ => fun
  | [d1, d2] => { results := [.lit (.bool false)], args := [d1, d2] }
  | _ => none }
def NumLessWrongFalsely : Prop := numLessRow.holds Tryd.pinned (OpenSpec.ofChange numLessWrong)

/-- 'quillpenlaw16.NumOrder': WHATEVER THE INPUT: true; the input reads as it did. -/
def numOrderSpec : ChangeSpec := { name := "numOrder", fn := fun _ => fun
  | [d1, d2] => { results := [.lit (.bool true)], args := [d1, d2] }
  | _ => none }
def numOrderRow : OpenClaim := { program := "ytpiphiieflnabaadoor", sum := "7a8ef63246c076d8a5e38f5bdbb4049345d493fa6c7ce6dcba967ceac5164c13", func := "quillpen/quillpenlaw16.NumOrder", spec := "numOrder", inPlace := ["math/bits.Add64"], named := ["internal/strconv.uint64pow10", "math/bits.deBruijn32tab", "math/bits.deBruijn64tab", "strconv.ErrSyntax", "strconv.ErrRange"], apart := false, laid := [("math/bits.deBruijn32tab", laid_math_bits_deBruijn32tab), ("math/bits.deBruijn64tab", laid_math_bits_deBruijn64tab), ("internal/strconv.uint64pow10", laid_internal_strconv_uint64pow10), ("strconv.ErrRange", laid_strconv_ErrRange), ("strconv.ErrSyntax", laid_strconv_ErrSyntax)] }
def NumOrderSaid : Prop := numOrderRow.holds Tryd.pinned (OpenSpec.ofChange numOrderSpec)

/-- ITS FALSE NEIGHBOUR: 'it returns false'. Refute it at one input. -/
def numOrderWrong : ChangeSpec := { name := "numOrder", fn := fun _ => fun
  | [d1, d2] => { results := [.lit (.bool false)], args := [d1, d2] }
  | _ => none }
def NumOrderWrongFalsely : Prop := numOrderRow.holds Tryd.pinned (OpenSpec.ofChange numOrderWrong)

/-- 'quillpenlaw17.CellEncodes': WHATEVER THE INPUT: true; the input reads as it did. -/
def cellEncodesSpec : ChangeSpec := { name := "cellEncodes", fn := fun _ => fun
  | [d1, d2] => { results := [.lit (.bool true)], args := [d1, d2] }
  | _ => none }
def cellEncodesRow : OpenClaim := { program := "ytpiphiieflnabaadoor", sum := "7a8ef63246c076d8a5e38f5bdbb4049345d493fa6c7ce6dcba967ceac5164c13", func := "quillpen/quillpenlaw17.CellEncodes", spec := "cellEncodes", recurses := true, named := ["quillpen/utf.table", "internal/strconv.uint64pow10", "math/bits.deBruijn32tab", "math/bits.deBruijn64tab", "strconv.ErrSyntax", "strconv.ErrRange"], apart := false, laid := [("math/bits.deBruijn32tab", laid_math_bits_deBruijn32tab), ("math/bits.deBruijn64tab", laid_math_bits_deBruijn64tab), ("internal/strconv.uint64pow10", laid_internal_strconv_uint64pow10), ("quillpen/utf.table", laid_quillpen_utf_table), ("strconv.ErrRange", laid_strconv_ErrRange), ("strconv.ErrSyntax", laid_strconv_ErrSyntax)] }
def CellEncodesSaid : Prop := cellEncodesRow.holds Tryd.pinned (OpenSpec.ofChange cellEncodesSpec)

/-- ITS FALSE NEIGHBOUR: 'it returns false'. Refute it at one input. -/
def cellEncodesWrong : ChangeSpec := { name := "cellEncodes", fn := fun _ => fun
  | [d1, d2] => { results := [.lit (.bool false)], args := [d1, d2] }
  | _ => none }
def CellEncodesWrongFalsely : Prop := cellEncodesRow.holds Tryd.pinned (OpenSpec.ofChange cellEncodesWrong)

/-- 'quillpenlaw17.CellDecodes': WHATEVER THE INPUT: true; the input reads as it did. -/
def cellDecodesSpec : ChangeSpec := { name := "cellDecodes", fn := fun _ => fun
  | [d1, d2] => { results := [.lit (.bool true)], args := [d1, d2] }
  | _ => none }
def cellDecodesRow : OpenClaim := { program := "ytpiphiieflnabaadoor", sum := "7a8ef63246c076d8a5e38f5bdbb4049345d493fa6c7ce6dcba967ceac5164c13", func := "quillpen/quillpenlaw17.CellDecodes", spec := "cellDecodes", recurses := true, named := ["quillpen/utf.table", "internal/strconv.uint64pow10", "math/bits.deBruijn32tab", "math/bits.deBruijn64tab", "strconv.ErrSyntax", "strconv.ErrRange"], apart := false, laid := [("math/bits.deBruijn32tab", laid_math_bits_deBruijn32tab), ("math/bits.deBruijn64tab", laid_math_bits_deBruijn64tab), ("internal/strconv.uint64pow10", laid_internal_strconv_uint64pow10), ("quillpen/utf.table", laid_quillpen_utf_table), ("strconv.ErrRange", laid_strconv_ErrRange), ("strconv.ErrSyntax", laid_strconv_ErrSyntax)] }
def CellDecodesSaid : Prop := cellDecodesRow.holds Tryd.pinned (OpenSpec.ofChange cellDecodesSpec)

/-- ITS FALSE NEIGHBOUR: 'it returns false'. Refute it at one input. -/
def cellDecodesWrong : ChangeSpec := { name := "cellDecodes", fn := fun _ => fun
  | [d1, d2] => { results := [.lit (.bool false)], args := [d1, d2] }
  | _ => none }
def CellDecodesWrongFalsely : Prop := cellDecodesRow.holds Tryd.pinned (OpenSpec.ofChange cellDecodesWrong)

/- THE SECOND FORM. 'bulk': how many values and letters a reading holds, each counted each time it is reached (what is shared counts as often as it is met; a slice's spare places count too). A statement '..UptoSaid' is the law's where the arguments, and the package variables that the reading takes, are together of bulk at most 1048576: NARROWER than '..Said'. Prove '..Said' where nothing that the law and all that it calls make is longer than what came in: it says more and counts as full. Else prove '..UptoSaid'. A law counts once. -/
mutual
def uptoBulk {H : Type} : DataW H → Nat
  | .lit (.string bytes) => bytes.length + 1
  | .lit _ => 1
  | .nil => 1
  | .ptr d => uptoBulk d + 1
  | .slice elems spare => uptoBulkAll elems + uptoBulkAll spare + 1
  | .agg parts => uptoBulkAll parts + 1
  | .iface _ d => uptoBulk d + 1
  | .map entries => uptoBulkEntries entries + 1
  | .held _ => 1
def uptoBulkAll {H : Type} : List (DataW H) → Nat
  | [] => 0
  | d :: r => uptoBulk d + uptoBulkAll r
def uptoBulkEntries {H : Type} : List (Lit × DataW H) → Nat
  | [] => 0
  | x :: r => uptoBulkEntry x + uptoBulkEntries r
def uptoBulkEntry {H : Type} : Lit × DataW H → Nat
  | (.string bytes, d) => bytes.length + uptoBulk d + 1
  | (_, d) => uptoBulk d + 1
 end
def uptoSmall : (H : Type) → List (DataW H) → Bool := fun _ ds => decide (uptoBulkAll ds ≤ 1048576)
def OpenSpec.upto (s : _root_.Go.ChangeSpec) : _root_.Go.OpenSpec := { _root_.Go.OpenSpec.ofChange s with cond := some uptoSmall }

/-- 'quillpenlaw17.CellUnlike', WHERE WHAT IT READS IS OF BULK AT MOST 1048576: true; the input reads as it did. -/
def cellUnlikeUptoRow : OpenClaim := { program := "ytpiphiieflnabaadoor", sum := "7a8ef63246c076d8a5e38f5bdbb4049345d493fa6c7ce6dcba967ceac5164c13", func := "quillpen/quillpenlaw17.CellUnlike", spec := "cellUnlike", named := ["quillpen/utf.table", "internal/strconv.uint64pow10", "math/bits.deBruijn32tab", "math/bits.deBruijn64tab"], apart := false, laid := [("math/bits.deBruijn32tab", laid_math_bits_deBruijn32tab), ("math/bits.deBruijn64tab", laid_math_bits_deBruijn64tab), ("internal/strconv.uint64pow10", laid_internal_strconv_uint64pow10), ("quillpen/utf.table", laid_quillpen_utf_table)], narrowed := true }
def CellUnlikeUptoSaid : Prop := cellUnlikeUptoRow.holds Tryd.pinned (OpenSpec.upto cellUnlikeSpec)

/-- 'quillpenlaw17.CellMakes', WHERE WHAT IT READS IS OF BULK AT MOST 1048576: true; the input reads as it did. -/
def cellMakesUptoRow : OpenClaim := { program := "ytpiphiieflnabaadoor", sum := "7a8ef63246c076d8a5e38f5bdbb4049345d493fa6c7ce6dcba967ceac5164c13", func := "quillpen/quillpenlaw17.CellMakes", spec := "cellMakes", named := ["quillpen/utf.table", "internal/strconv.uint64pow10", "math/bits.deBruijn32tab", "math/bits.deBruijn64tab"], apart := false, laid := [("math/bits.deBruijn32tab", laid_math_bits_deBruijn32tab), ("math/bits.deBruijn64tab", laid_math_bits_deBruijn64tab), ("internal/strconv.uint64pow10", laid_internal_strconv_uint64pow10), ("quillpen/utf.table", laid_quillpen_utf_table)], narrowed := true }
def CellMakesUptoSaid : Prop := cellMakesUptoRow.holds Tryd.pinned (OpenSpec.upto cellMakesSpec)

/-- 'quillpenlaw17.CellOrder', WHERE WHAT IT READS IS OF BULK AT MOST 1048576: true; the input reads as it did. -/
def cellOrderUptoRow : OpenClaim := { program := "ytpiphiieflnabaadoor", sum := "7a8ef63246c076d8a5e38f5bdbb4049345d493fa6c7ce6dcba967ceac5164c13", func := "quillpen/quillpenlaw17.CellOrder", spec := "cellOrder", inPlace := ["internal/bytealg.abigen_runtime_cmpstring"], named := ["quillpen/utf.table", "internal/strconv.uint64pow10", "math/bits.deBruijn32tab", "math/bits.deBruijn64tab"], apart := false, laid := [("math/bits.deBruijn32tab", laid_math_bits_deBruijn32tab), ("math/bits.deBruijn64tab", laid_math_bits_deBruijn64tab), ("internal/strconv.uint64pow10", laid_internal_strconv_uint64pow10), ("quillpen/utf.table", laid_quillpen_utf_table)], narrowed := true }
def CellOrderUptoSaid : Prop := cellOrderUptoRow.holds Tryd.pinned (OpenSpec.upto cellOrderSpec)

/-- 'quillpenlaw16.NumSums', WHERE WHAT IT READS IS OF BULK AT MOST 1048576: true; the input reads as it did. -/
def numSumsUptoRow : OpenClaim := { program := "ytpiphiieflnabaadoor", sum := "7a8ef63246c076d8a5e38f5bdbb4049345d493fa6c7ce6dcba967ceac5164c13", func := "quillpen/quillpenlaw16.NumSums", spec := "numSums", inPlace := ["math/bits.Add64"], named := ["strconv.ErrSyntax", "strconv.ErrRange", "internal/strconv.uint64pow10", "math/bits.deBruijn32tab", "math/bits.deBruijn64tab"], apart := false, laid := [("math/bits.deBruijn32tab", laid_math_bits_deBruijn32tab), ("math/bits.deBruijn64tab", laid_math_bits_deBruijn64tab), ("internal/strconv.uint64pow10", laid_internal_strconv_uint64pow10), ("strconv.ErrRange", laid_strconv_ErrRange), ("strconv.ErrSyntax", laid_strconv_ErrSyntax)], narrowed := true }
def NumSumsUptoSaid : Prop := numSumsUptoRow.holds Tryd.pinned (OpenSpec.upto numSumsSpec)

/-- 'quillpenlaw16.NumParses', WHERE WHAT IT READS IS OF BULK AT MOST 1048576: true; the input reads as it did. -/
def numParsesUptoRow : OpenClaim := { program := "ytpiphiieflnabaadoor", sum := "7a8ef63246c076d8a5e38f5bdbb4049345d493fa6c7ce6dcba967ceac5164c13", func := "quillpen/quillpenlaw16.NumParses", spec := "numParses", inPlace := ["math/bits.Add64"], named := ["strconv.ErrSyntax", "strconv.ErrRange", "internal/strconv.uint64pow10", "math/bits.deBruijn32tab", "math/bits.deBruijn64tab"], apart := false, laid := [("math/bits.deBruijn32tab", laid_math_bits_deBruijn32tab), ("math/bits.deBruijn64tab", laid_math_bits_deBruijn64tab), ("internal/strconv.uint64pow10", laid_internal_strconv_uint64pow10), ("strconv.ErrRange", laid_strconv_ErrRange), ("strconv.ErrSyntax", laid_strconv_ErrSyntax)], narrowed := true }
def NumParsesUptoSaid : Prop := numParsesUptoRow.holds Tryd.pinned (OpenSpec.upto numParsesSpec)

/-- 'quillpenlaw16.NumPrints', WHERE WHAT IT READS IS OF BULK AT MOST 1048576: true; the input reads as it did. -/
def numPrintsUptoRow : OpenClaim := { program := "ytpiphiieflnabaadoor", sum := "7a8ef63246c076d8a5e38f5bdbb4049345d493fa6c7ce6dcba967ceac5164c13", func := "quillpen/quillpenlaw16.NumPrints", spec := "numPrints", inPlace := ["math/bits.Add64"], recurses := true, named := ["internal/strconv.uint64pow10", "math/bits.deBruijn32tab", "math/bits.deBruijn64tab", "strconv.ErrSyntax", "strconv.ErrRange"], apart := false, laid := [("math/bits.deBruijn32tab", laid_math_bits_deBruijn32tab), ("math/bits.deBruijn64tab", laid_math_bits_deBruijn64tab), ("internal/strconv.uint64pow10", laid_internal_strconv_uint64pow10), ("strconv.ErrRange", laid_strconv_ErrRange), ("strconv.ErrSyntax", laid_strconv_ErrSyntax)], narrowed := true }
def NumPrintsUptoSaid : Prop := numPrintsUptoRow.holds Tryd.pinned (OpenSpec.upto numPrintsSpec)

/-- 'quillpenlaw16.NumLess', WHERE WHAT IT READS IS OF BULK AT MOST 1048576: true; the input reads as it did. -/
def numLessUptoRow : OpenClaim := { program := "ytpiphiieflnabaadoor", sum := "7a8ef63246c076d8a5e38f5bdbb4049345d493fa6c7ce6dcba967ceac5164c13", func := "quillpen/quillpenlaw16.NumLess", spec := "numLess", inPlace := ["math/bits.Add64"], named := ["strconv.ErrSyntax", "strconv.ErrRange", "internal/strconv.uint64pow10", "math/bits.deBruijn32tab", "math/bits.deBruijn64tab"], apart := false, laid := [("math/bits.deBruijn32tab", laid_math_bits_deBruijn32tab), ("math/bits.deBruijn64tab", laid_math_bits_deBruijn64tab), ("internal/strconv.uint64pow10", laid_internal_strconv_uint64pow10), ("strconv.ErrRange", laid_strconv_ErrRange), ("strconv.ErrSyntax", laid_strconv_ErrSyntax)], narrowed := true }
def NumLessUptoSaid : Prop := numLessUptoRow.holds Tryd.pinned (OpenSpec.upto numLessSpec)

/-- 'quillpenlaw16.NumOrder', WHERE WHAT IT READS IS OF BULK AT MOST 1048576: true; the input reads as it did. -/
def numOrderUptoRow : OpenClaim := { program := "ytpiphiieflnabaadoor", sum := "7a8ef63246c076d8a5e38f5bdbb4049345d493fa6c7ce6dcba967ceac5164c13", func := "quillpen/quillpenlaw16.NumOrder", spec := "numOrder", inPlace := ["math/bits.Add64"], named := ["internal/strconv.uint64pow10", "math/bits.deBruijn32tab", "math/bits.deBruijn64tab", "strconv.ErrSyntax", "strconv.ErrRange"], apart := false, laid := [("math/bits.deBruijn32tab", laid_math_bits_deBruijn32tab), ("math/bits.deBruijn64tab", laid_math_bits_deBruijn64tab), ("internal/strconv.uint64pow10", laid_internal_strconv_uint64pow10), ("strconv.ErrRange", laid_strconv_ErrRange), ("strconv.ErrSyntax", laid_strconv_ErrSyntax)], narrowed := true }
def NumOrderUptoSaid : Prop := numOrderUptoRow.holds Tryd.pinned (OpenSpec.upto numOrderSpec)

/-- 'quillpenlaw17.CellEncodes', WHERE WHAT IT READS IS OF BULK AT MOST 1048576: true; the input reads as it did. -/
def cellEncodesUptoRow : OpenClaim := { program := "ytpiphiieflnabaadoor", sum := "7a8ef63246c076d8a5e38f5bdbb4049345d493fa6c7ce6dcba967ceac5164c13", func := "quillpen/quillpenlaw17.CellEncodes", spec := "cellEncodes", recurses := true, named := ["quillpen/utf.table", "internal/strconv.uint64pow10", "math/bits.deBruijn32tab", "math/bits.deBruijn64tab", "strconv.ErrSyntax", "strconv.ErrRange"], apart := false, laid := [("math/bits.deBruijn32tab", laid_math_bits_deBruijn32tab), ("math/bits.deBruijn64tab", laid_math_bits_deBruijn64tab), ("internal/strconv.uint64pow10", laid_internal_strconv_uint64pow10), ("quillpen/utf.table", laid_quillpen_utf_table), ("strconv.ErrRange", laid_strconv_ErrRange), ("strconv.ErrSyntax", laid_strconv_ErrSyntax)], narrowed := true }
def CellEncodesUptoSaid : Prop := cellEncodesUptoRow.holds Tryd.pinned (OpenSpec.upto cellEncodesSpec)

/-- 'quillpenlaw17.CellDecodes', WHERE WHAT IT READS IS OF BULK AT MOST 1048576: true; the input reads as it did. -/
def cellDecodesUptoRow : OpenClaim := { program := "ytpiphiieflnabaadoor", sum := "7a8ef63246c076d8a5e38f5bdbb4049345d493fa6c7ce6dcba967ceac5164c13", func := "quillpen/quillpenlaw17.CellDecodes", spec := "cellDecodes", recurses := true, named := ["quillpen/utf.table", "internal/strconv.uint64pow10", "math/bits.deBruijn32tab", "math/bits.deBruijn64tab", "strconv.ErrSyntax", "strconv.ErrRange"], apart := false, laid := [("math/bits.deBruijn32tab", laid_math_bits_deBruijn32tab), ("math/bits.deBruijn64tab", laid_math_bits_deBruijn64tab), ("internal/strconv.uint64pow10", laid_internal_strconv_uint64pow10), ("quillpen/utf.table", laid_quillpen_utf_table), ("strconv.ErrRange", laid_strconv_ErrRange), ("strconv.ErrSyntax", laid_strconv_ErrSyntax)], narrowed := true }
def CellDecodesUptoSaid : Prop := cellDecodesUptoRow.holds Tryd.pinned (OpenSpec.upto cellDecodesSpec)

end Rows
end Go.Proofs.YtpiphiieflnabaaDoor
