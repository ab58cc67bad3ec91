/-
  NARROWER THAN 'FOR EVERY INPUT', by the rows' own cells (each row's printed sentence says how): WholeParses: laid · WholeFront: laid · WholeLimits: laid · WholeTells: laid.
  DERIVED. THE GIVEN ROWS OF THIS SEAT. 4 by the template 'for every input the law returns true; each argument reads behind the call as it read before'; 0 by the template 'total and deterministic' (their statements: YtmdgkchphmncpaaDoorTotals.lean).
  GIVEN WITH THE SEED: the statements are not yours to turn. If you find one false, say at which input.
  Laid BY PROGRAM, IN A SANDBOX (cutbox-rows.mjs): the forced cells as the released guide's own fill.sh prints them over the translation 9a881fe4c1c66b32… (all of the seat's roots in one cut). By AI agents, Wed Nov 11 2026. No macro, syntax, notation, axiom, sorry.
-/
import Derived.Test.YtmdgkchphmncpaaDoorChecked
import GoSem.Claim
import GoSem.ClaimJoined
import GoSem.ClaimMapViews
import Derived.JoinedTies
import Derived.KernelRfl
namespace Go.Proofs.YtmdgkchphmncpaaDoor
/- THE CELL 'sum', in the pinned program and in every row, IS THE sha256 OF THE DUMP (.gsa) THAT YtmdgkchphmncpaaDoorProg.lean LOADS. Nothing in Lean hashes anything: it is a label: what it is worth is what the hold of that sum in a sandbox is worth. -/
noncomputable def Tryd.pinned : Pinned := { name := "ytmdgkchphmncpaadoor", sum := "9a881fe4c1c66b323e522e834ee27275d1bae578133b732c6ab556fa1b24552b", checked := Tryd.checked }
namespace Rows
def none {H : Type} : Left H := { results := [], args := [] }

/- WHAT THE LISTED PACKAGE-LEVEL VARIABLES READ AS WHEN THE CALL BEGINS. Each datum BY PROGRAM (the guide's laid-datum.mjs) off the statement by which the dump's own 'gosem.cut.vars' lays the variable. In a bare row this is a premise. The card (YtmdgkchphmncpaaDoorCards.lean) ties it to the program's text. -/
def laid_quillpen_utf_table {H : Type} : DataW H := .agg [.slice [.agg [.lit (.int .u8 0), .lit (.int .u8 127), .lit (.int .i64 0)], .agg [.lit (.int .u8 194), .lit (.int .u8 223), .lit (.int .i64 1)], .agg [.lit (.int .u8 224), .lit (.int .u8 224), .lit (.int .i64 4)], .agg [.lit (.int .u8 225), .lit (.int .u8 236), .lit (.int .i64 2)], .agg [.lit (.int .u8 237), .lit (.int .u8 237), .lit (.int .i64 5)], .agg [.lit (.int .u8 238), .lit (.int .u8 239), .lit (.int .i64 2)], .agg [.lit (.int .u8 240), .lit (.int .u8 240), .lit (.int .i64 6)], .agg [.lit (.int .u8 241), .lit (.int .u8 243), .lit (.int .i64 3)], .agg [.lit (.int .u8 244), .lit (.int .u8 244), .lit (.int .i64 7)]] [], .slice [.agg [.lit (.int .u8 128), .lit (.int .u8 191), .lit (.int .i64 0)]] [], .slice [.agg [.lit (.int .u8 128), .lit (.int .u8 191), .lit (.int .i64 1)]] [], .slice [.agg [.lit (.int .u8 128), .lit (.int .u8 191), .lit (.int .i64 2)]] [], .slice [.agg [.lit (.int .u8 160), .lit (.int .u8 191), .lit (.int .i64 1)]] [], .slice [.agg [.lit (.int .u8 128), .lit (.int .u8 159), .lit (.int .i64 1)]] [], .slice [.agg [.lit (.int .u8 144), .lit (.int .u8 191), .lit (.int .i64 2)]] [], .slice [.agg [.lit (.int .u8 128), .lit (.int .u8 143), .lit (.int .i64 2)]] []]

/-- 'quillpenlaw06.WholeParses': WHATEVER THE INPUT: true; the input reads as it did. -/
def wholeParsesSpec : ChangeSpec := { name := "wholeParses", fn := fun _ => fun
  | [d1, d2, d3] => { results := [.lit (.bool true)], args := [d1, d2, d3] }
  | _ => none }
def wholeParsesRow : OpenClaim := { program := "ytmdgkchphmncpaadoor", sum := "9a881fe4c1c66b323e522e834ee27275d1bae578133b732c6ab556fa1b24552b", func := "quillpen/quillpenlaw06.WholeParses", spec := "wholeParses", unfollowed := true, recurses := true, named := ["quillpen/utf.table"], apart := false, laid := [("quillpen/utf.table", laid_quillpen_utf_table)] }
def WholeParsesSaid : Prop := wholeParsesRow.holds Tryd.pinned (OpenSpec.ofChange wholeParsesSpec)

/-- ITS FALSE NEIGHBOUR: 'it returns false'. Refute it at one input. -/
def wholeParsesWrong : ChangeSpec := { name := "wholeParses", fn := fun _ => fun
  | [d1, d2, d3] => { results := [.lit (.bool false)], args := [d1, d2, d3] }
  | _ => none }
def WholeParsesWrongFalsely : Prop := wholeParsesRow.holds Tryd.pinned (OpenSpec.ofChange wholeParsesWrong)

/-- 'quillpenlaw06.WholeFront': WHATEVER THE INPUT: true; the input reads as it did. -/
def wholeFrontSpec : ChangeSpec := { name := "wholeFront", fn := fun _ => fun
  | [d1, d2, d3] => { results := [.lit (.bool true)], args := [d1, d2, d3] }
  | _ => none }
def wholeFrontRow : OpenClaim := { program := "ytmdgkchphmncpaadoor", sum := "9a881fe4c1c66b323e522e834ee27275d1bae578133b732c6ab556fa1b24552b", func := "quillpen/quillpenlaw06.WholeFront", spec := "wholeFront", unfollowed := true, recurses := true, named := ["quillpen/utf.table"], apart := false, laid := [("quillpen/utf.table", laid_quillpen_utf_table)] }
def WholeFrontSaid : Prop := wholeFrontRow.holds Tryd.pinned (OpenSpec.ofChange wholeFrontSpec)

/-- ITS FALSE NEIGHBOUR: 'it returns false'. Refute it at one input. -/
def wholeFrontWrong : ChangeSpec := { name := "wholeFront", fn := fun _ => fun
  | [d1, d2, d3] => { results := [.lit (.bool false)], args := [d1, d2, d3] }
  | _ => none }
def WholeFrontWrongFalsely : Prop := wholeFrontRow.holds Tryd.pinned (OpenSpec.ofChange wholeFrontWrong)

/-- 'quillpenlaw06.WholeLimits': WHATEVER THE INPUT: true; the input reads as it did. -/
def wholeLimitsSpec : ChangeSpec := { name := "wholeLimits", fn := fun _ => fun
  | [d1, d2, d3] => { results := [.lit (.bool true)], args := [d1, d2, d3] }
  | _ => none }
def wholeLimitsRow : OpenClaim := { program := "ytmdgkchphmncpaadoor", sum := "9a881fe4c1c66b323e522e834ee27275d1bae578133b732c6ab556fa1b24552b", func := "quillpen/quillpenlaw06.WholeLimits", spec := "wholeLimits", unfollowed := true, recurses := true, named := ["quillpen/utf.table"], apart := false, laid := [("quillpen/utf.table", laid_quillpen_utf_table)] }
def WholeLimitsSaid : Prop := wholeLimitsRow.holds Tryd.pinned (OpenSpec.ofChange wholeLimitsSpec)

/-- ITS FALSE NEIGHBOUR: 'it returns false'. Refute it at one input. -/
def wholeLimitsWrong : ChangeSpec := { name := "wholeLimits", fn := fun _ => fun
  | [d1, d2, d3] => { results := [.lit (.bool false)], args := [d1, d2, d3] }
  | _ => none }
def WholeLimitsWrongFalsely : Prop := wholeLimitsRow.holds Tryd.pinned (OpenSpec.ofChange wholeLimitsWrong)

/-- 'quillpenlaw06.WholeTells': WHATEVER THE INPUT: true; the input reads as it did. -/
def wholeTellsSpec : ChangeSpec := { name := "wholeTells", fn := fun _ => fun
  | [d1, d2, d3] => { results := [.lit (.bool true)], args := [d1, d2, d3] }
  | _ => none }
def wholeTellsRow : OpenClaim := { program := "ytmdgkchphmncpaadoor", sum := "9a881fe4c1c66b323e522e834ee27275d1bae578133b732c6ab556fa1b24552b", func := "quillpen/quillpenlaw06.WholeTells", spec := "wholeTells", unfollowed := true, recurses := true, named := ["quillpen/utf.table"], apart := false, laid := [("quillpen/utf.table", laid_quillpen_utf_table)] }
def WholeTellsSaid : Prop := wholeTellsRow.holds Tryd.pinned (OpenSpec.ofChange wholeTellsSpec)

/-- ITS FALSE NEIGHBOUR: 'it returns false'. Refute it at one input. -/
def wholeTellsWrong : ChangeSpec := { name := "wholeTells", fn := fun _ => fun
  | [d1, d2, d3] => { results := [.lit (.bool false)], args := [d1, d2, d3] }
  | _ => none }
def WholeTellsWrongFalsely : Prop := wholeTellsRow.holds Tryd.pinned (OpenSpec.ofChange wholeTellsWrong)

/- THE SECOND FORM. 'bulk': how many values and letters a reading holds, each counted each time it is reached (what is shared counts as often as it is met; a slice's spare places count too). A statement '..UptoSaid' is the law's where the arguments, and the package variables that the reading takes, are together of bulk at most 1048576: NARROWER than '..Said'. Prove '..Said' where nothing that the law and all that it calls make is longer than what came in: it says more and counts as full. Else prove '..UptoSaid'. A law counts once. -/
mutual
def uptoBulk {H : Type} : DataW H → Nat
  | .lit (.string bytes) => bytes.length + 1
  | .lit _ => 1
  | .nil => 1
  | .ptr d => uptoBulk d + 1
  | .slice elems spare => uptoBulkAll elems + uptoBulkAll spare + 1
  | .agg parts => uptoBulkAll parts + 1
  | .iface _ d => uptoBulk d + 1
  | .map entries => uptoBulkEntries entries + 1
  | .held _ => 1
def uptoBulkAll {H : Type} : List (DataW H) → Nat
  | [] => 0
  | d :: r => uptoBulk d + uptoBulkAll r
def uptoBulkEntries {H : Type} : List (Lit × DataW H) → Nat
  | [] => 0
  | x :: r => uptoBulkEntry x + uptoBulkEntries r
def uptoBulkEntry {H : Type} : Lit × DataW H → Nat
  | (.string bytes, d) => bytes.length + uptoBulk d + 1
  | (_, d) => uptoBulk d + 1
 end
def uptoSmall : (H : Type) → List (DataW H) → Bool := fun _ ds => decide (uptoBulkAll ds ≤ 1048576)
def OpenSpec.upto (s : _root_.Go.ChangeSpec) : _root_.Go.OpenSpec := { _root_.Go.OpenSpec.ofChange s with cond := some uptoSmall }

/-- 'quillpenlaw06.WholeParses', WHERE WHAT IT READS IS OF BULK AT MOST 1048576: true; the input reads as it did. -/
def wholeParsesUptoRow : OpenClaim := { program := "ytmdgkchphmncpaadoor", sum := "9a881fe4c1c66b323e522e834ee27275d1bae578133b732c6ab556fa1b24552b", func := "quillpen/quillpenlaw06.WholeParses", spec := "wholeParses", unfollowed := true, recurses := true, named := ["quillpen/utf.table"], apart := false, laid := [("quillpen/utf.table", laid_quillpen_utf_table)], narrowed := true }
def WholeParsesUptoSaid : Prop := wholeParsesUptoRow.holds Tryd.pinned (OpenSpec.upto wholeParsesSpec)

/-- 'quillpenlaw06.WholeFront', WHERE WHAT IT READS IS OF BULK AT MOST 1048576: true; the input reads as it did. -/
def wholeFrontUptoRow : OpenClaim := { program := "ytmdgkchphmncpaadoor", sum := "9a881fe4c1c66b323e522e834ee27275d1bae578133b732c6ab556fa1b24552b", func := "quillpen/quillpenlaw06.WholeFront", spec := "wholeFront", unfollowed := true, recurses := true, named := ["quillpen/utf.table"], apart := false, laid := [("quillpen/utf.table", laid_quillpen_utf_table)], narrowed := true }
def WholeFrontUptoSaid : Prop := wholeFrontUptoRow.holds Tryd.pinned (OpenSpec.upto wholeFrontSpec)

/-- 'quillpenlaw06.WholeLimits', WHERE WHAT IT READS IS OF BULK AT MOST 1048576: true; the input reads as it did. -/
def wholeLimitsUptoRow : OpenClaim := { program := "ytmdgkchphmncpaadoor", sum := "9a881fe4c1c66b323e522e834ee27275d1bae578133b732c6ab556fa1b24552b", func := "quillpen/quillpenlaw06.WholeLimits", spec := "wholeLimits", unfollowed := true, recurses := true, named := ["quillpen/utf.table"], apart := false, laid := [("quillpen/utf.table", laid_quillpen_utf_table)], narrowed := true }
def WholeLimitsUptoSaid : Prop := wholeLimitsUptoRow.holds Tryd.pinned (OpenSpec.upto wholeLimitsSpec)

/-- 'quillpenlaw06.WholeTells', WHERE WHAT IT READS IS OF BULK AT MOST 1048576: true; the input reads as it did. -/
def wholeTellsUptoRow : OpenClaim := { program := "ytmdgkchphmncpaadoor", sum := "9a881fe4c1c66b323e522e834ee27275d1bae578133b732c6ab556fa1b24552b", func := "quillpen/quillpenlaw06.WholeTells", spec := "wholeTells", unfollowed := true, recurses := true, named := ["quillpen/utf.table"], apart := false, laid := [("quillpen/utf.table", laid_quillpen_utf_table)], narrowed := true }
def WholeTellsUptoSaid : Prop := wholeTellsUptoRow.holds Tryd.pinned (OpenSpec.upto wholeTellsSpec)

end Rows
end Go.Proofs.YtmdgkchphmncpaaDoor
