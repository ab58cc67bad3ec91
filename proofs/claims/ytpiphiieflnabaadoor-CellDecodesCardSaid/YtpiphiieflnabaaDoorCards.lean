/-
  DERIVED. GIVEN WITH THE SEED: THE CARDS: each row of YtpiphiieflnabaaDoorRows.lean that lists a variable, with what it lists TIED to the program's text (the seventh form; the later family's looks); each row that meets fmt, with fmt's text TOLD by the authors' own Lean function (tested against real Go, not proved from fmt's source: count such statements apart). THE CARD IS WHAT COUNTS. Prove the row's statement (the work); the ties are given (YtpiphiieflnabaaDoorTie.lean); close each card by the builder's one call (the guide's Derived/Test/ToyasCard.lean, 'card_holds'). Laid BY PROGRAM, IN A SANDBOX (cutbox-door.mjs). By AI agents, Wed Nov 11 2026. No macro, syntax, notation, axiom, sorry.
-/
import Derived.Test.YtpiphiieflnabaaDoorRows
import GoSem.ClaimSeven
namespace Go.Proofs.YtpiphiieflnabaaDoor
namespace Rows

/-- THE TIED CARD OF 'quillpenlaw17.CellUnlike'. -/
def cellUnlikeCard : Claim7 := { stood := { row := cellUnlikeRow, standIns := [], harness := (true, "90fcddb6661a9373be0ddd9ae852bf19da0519f8a585c89fce4a563e087ba28f"), looks := true }, kinds := [], alts := [], laidByText := true, laidKinds := [.data, .data, .data, .data], laidTests := true, laidLooks := .later }
def CellUnlikeCardSaid : Prop := Claim7.holds Tryd.pinned (.plain (OpenSpec.ofChange cellUnlikeSpec)) cellUnlikeCard

/-- THE TIED CARD OF 'quillpenlaw17.CellMakes'. -/
def cellMakesCard : Claim7 := { stood := { row := cellMakesRow, standIns := [], harness := (true, "90fcddb6661a9373be0ddd9ae852bf19da0519f8a585c89fce4a563e087ba28f"), looks := true }, kinds := [], alts := [], laidByText := true, laidKinds := [.data, .data, .data, .data], laidTests := true, laidLooks := .later }
def CellMakesCardSaid : Prop := Claim7.holds Tryd.pinned (.plain (OpenSpec.ofChange cellMakesSpec)) cellMakesCard

/-- THE TIED CARD OF 'quillpenlaw17.CellOrder'. -/
def cellOrderCard : Claim7 := { stood := { row := cellOrderRow, standIns := [], harness := (true, "90fcddb6661a9373be0ddd9ae852bf19da0519f8a585c89fce4a563e087ba28f"), looks := true }, kinds := [], alts := [], laidByText := true, laidKinds := [.data, .data, .data, .data], laidTests := true, laidLooks := .later }
def CellOrderCardSaid : Prop := Claim7.holds Tryd.pinned (.plain (OpenSpec.ofChange cellOrderSpec)) cellOrderCard

/-- THE TIED CARD OF 'quillpenlaw16.NumSums'. -/
def numSumsCard : Claim7 := { stood := { row := numSumsRow, standIns := [], harness := (true, "90fcddb6661a9373be0ddd9ae852bf19da0519f8a585c89fce4a563e087ba28f"), looks := true }, kinds := [], alts := [], laidByText := true, laidKinds := [.data, .data, .data, .sentinel, .sentinel], laidTests := true, laidLooks := .later }
def NumSumsCardSaid : Prop := Claim7.holds Tryd.pinned (.plain (OpenSpec.ofChange numSumsSpec)) numSumsCard

/-- THE TIED CARD OF 'quillpenlaw16.NumParses'. -/
def numParsesCard : Claim7 := { stood := { row := numParsesRow, standIns := [], harness := (true, "90fcddb6661a9373be0ddd9ae852bf19da0519f8a585c89fce4a563e087ba28f"), looks := true }, kinds := [], alts := [], laidByText := true, laidKinds := [.data, .data, .data, .sentinel, .sentinel], laidTests := true, laidLooks := .later }
def NumParsesCardSaid : Prop := Claim7.holds Tryd.pinned (.plain (OpenSpec.ofChange numParsesSpec)) numParsesCard

/-- THE TIED CARD OF 'quillpenlaw16.NumPrints'. -/
def numPrintsCard : Claim7 := { stood := { row := numPrintsRow, standIns := [], harness := (true, "90fcddb6661a9373be0ddd9ae852bf19da0519f8a585c89fce4a563e087ba28f"), looks := true }, kinds := [], alts := [], laidByText := true, laidKinds := [.data, .data, .data, .sentinel, .sentinel], laidTests := true, laidLooks := .later }
def NumPrintsCardSaid : Prop := Claim7.holds Tryd.pinned (.plain (OpenSpec.ofChange numPrintsSpec)) numPrintsCard

/-- THE TIED CARD OF 'quillpenlaw16.NumLess'. -/
def numLessCard : Claim7 := { stood := { row := numLessRow, standIns := [], harness := (true, "90fcddb6661a9373be0ddd9ae852bf19da0519f8a585c89fce4a563e087ba28f"), looks := true }, kinds := [], alts := [], laidByText := true, laidKinds := [.data, .data, .data, .sentinel, .sentinel], laidTests := true, laidLooks := .later }
def NumLessCardSaid : Prop := Claim7.holds Tryd.pinned (.plain (OpenSpec.ofChange numLessSpec)) numLessCard

/-- THE TIED CARD OF 'quillpenlaw16.NumOrder'. -/
def numOrderCard : Claim7 := { stood := { row := numOrderRow, standIns := [], harness := (true, "90fcddb6661a9373be0ddd9ae852bf19da0519f8a585c89fce4a563e087ba28f"), looks := true }, kinds := [], alts := [], laidByText := true, laidKinds := [.data, .data, .data, .sentinel, .sentinel], laidTests := true, laidLooks := .later }
def NumOrderCardSaid : Prop := Claim7.holds Tryd.pinned (.plain (OpenSpec.ofChange numOrderSpec)) numOrderCard

/-- THE TIED CARD OF 'quillpenlaw17.CellEncodes'. -/
def cellEncodesCard : Claim7 := { stood := { row := cellEncodesRow, standIns := [], harness := (true, "90fcddb6661a9373be0ddd9ae852bf19da0519f8a585c89fce4a563e087ba28f"), looks := true }, kinds := [], alts := [], laidByText := true, laidKinds := [.data, .data, .data, .data, .sentinel, .sentinel], laidTests := true, laidLooks := .later }
def CellEncodesCardSaid : Prop := Claim7.holds Tryd.pinned (.plain (OpenSpec.ofChange cellEncodesSpec)) cellEncodesCard

/-- THE TIED CARD OF 'quillpenlaw17.CellDecodes'. -/
def cellDecodesCard : Claim7 := { stood := { row := cellDecodesRow, standIns := [], harness := (true, "90fcddb6661a9373be0ddd9ae852bf19da0519f8a585c89fce4a563e087ba28f"), looks := true }, kinds := [], alts := [], laidByText := true, laidKinds := [.data, .data, .data, .data, .sentinel, .sentinel], laidTests := true, laidLooks := .later }
def CellDecodesCardSaid : Prop := Claim7.holds Tryd.pinned (.plain (OpenSpec.ofChange cellDecodesSpec)) cellDecodesCard

/-- THE SECOND FORM's CARD OF 'quillpenlaw17.CellUnlike'. -/
def cellUnlikeUptoCard : Claim7 := { stood := { row := cellUnlikeUptoRow, standIns := [], harness := (true, "90fcddb6661a9373be0ddd9ae852bf19da0519f8a585c89fce4a563e087ba28f"), looks := true }, kinds := [], alts := [], laidByText := true, laidKinds := [.data, .data, .data, .data], laidTests := true, laidLooks := .later }
def CellUnlikeUptoCardSaid : Prop := Claim7.holds Tryd.pinned (.plain (OpenSpec.upto cellUnlikeSpec)) cellUnlikeUptoCard

/-- THE SECOND FORM's CARD OF 'quillpenlaw17.CellMakes'. -/
def cellMakesUptoCard : Claim7 := { stood := { row := cellMakesUptoRow, standIns := [], harness := (true, "90fcddb6661a9373be0ddd9ae852bf19da0519f8a585c89fce4a563e087ba28f"), looks := true }, kinds := [], alts := [], laidByText := true, laidKinds := [.data, .data, .data, .data], laidTests := true, laidLooks := .later }
def CellMakesUptoCardSaid : Prop := Claim7.holds Tryd.pinned (.plain (OpenSpec.upto cellMakesSpec)) cellMakesUptoCard

/-- THE SECOND FORM's CARD OF 'quillpenlaw17.CellOrder'. -/
def cellOrderUptoCard : Claim7 := { stood := { row := cellOrderUptoRow, standIns := [], harness := (true, "90fcddb6661a9373be0ddd9ae852bf19da0519f8a585c89fce4a563e087ba28f"), looks := true }, kinds := [], alts := [], laidByText := true, laidKinds := [.data, .data, .data, .data], laidTests := true, laidLooks := .later }
def CellOrderUptoCardSaid : Prop := Claim7.holds Tryd.pinned (.plain (OpenSpec.upto cellOrderSpec)) cellOrderUptoCard

/-- THE SECOND FORM's CARD OF 'quillpenlaw16.NumSums'. -/
def numSumsUptoCard : Claim7 := { stood := { row := numSumsUptoRow, standIns := [], harness := (true, "90fcddb6661a9373be0ddd9ae852bf19da0519f8a585c89fce4a563e087ba28f"), looks := true }, kinds := [], alts := [], laidByText := true, laidKinds := [.data, .data, .data, .sentinel, .sentinel], laidTests := true, laidLooks := .later }
def NumSumsUptoCardSaid : Prop := Claim7.holds Tryd.pinned (.plain (OpenSpec.upto numSumsSpec)) numSumsUptoCard

/-- THE SECOND FORM's CARD OF 'quillpenlaw16.NumParses'. -/
def numParsesUptoCard : Claim7 := { stood := { row := numParsesUptoRow, standIns := [], harness := (true, "90fcddb6661a9373be0ddd9ae852bf19da0519f8a585c89fce4a563e087ba28f"), looks := true }, kinds := [], alts := [], laidByText := true, laidKinds := [.data, .data, .data, .sentinel, .sentinel], laidTests := true, laidLooks := .later }
def NumParsesUptoCardSaid : Prop := Claim7.holds Tryd.pinned (.plain (OpenSpec.upto numParsesSpec)) numParsesUptoCard

/-- THE SECOND FORM's CARD OF 'quillpenlaw16.NumPrints'. -/
def numPrintsUptoCard : Claim7 := { stood := { row := numPrintsUptoRow, standIns := [], harness := (true, "90fcddb6661a9373be0ddd9ae852bf19da0519f8a585c89fce4a563e087ba28f"), looks := true }, kinds := [], alts := [], laidByText := true, laidKinds := [.data, .data, .data, .sentinel, .sentinel], laidTests := true, laidLooks := .later }
def NumPrintsUptoCardSaid : Prop := Claim7.holds Tryd.pinned (.plain (OpenSpec.upto numPrintsSpec)) numPrintsUptoCard

/-- THE SECOND FORM's CARD OF 'quillpenlaw16.NumLess'. -/
def numLessUptoCard : Claim7 := { stood := { row := numLessUptoRow, standIns := [], harness := (true, "90fcddb6661a9373be0ddd9ae852bf19da0519f8a585c89fce4a563e087ba28f"), looks := true }, kinds := [], alts := [], laidByText := true, laidKinds := [.data, .data, .data, .sentinel, .sentinel], laidTests := true, laidLooks := .later }
def NumLessUptoCardSaid : Prop := Claim7.holds Tryd.pinned (.plain (OpenSpec.upto numLessSpec)) numLessUptoCard

/-- THE SECOND FORM's CARD OF 'quillpenlaw16.NumOrder'. -/
def numOrderUptoCard : Claim7 := { stood := { row := numOrderUptoRow, standIns := [], harness := (true, "90fcddb6661a9373be0ddd9ae852bf19da0519f8a585c89fce4a563e087ba28f"), looks := true }, kinds := [], alts := [], laidByText := true, laidKinds := [.data, .data, .data, .sentinel, .sentinel], laidTests := true, laidLooks := .later }
def NumOrderUptoCardSaid : Prop := Claim7.holds Tryd.pinned (.plain (OpenSpec.upto numOrderSpec)) numOrderUptoCard

/-- THE SECOND FORM's CARD OF 'quillpenlaw17.CellEncodes'. -/
def cellEncodesUptoCard : Claim7 := { stood := { row := cellEncodesUptoRow, standIns := [], harness := (true, "90fcddb6661a9373be0ddd9ae852bf19da0519f8a585c89fce4a563e087ba28f"), looks := true }, kinds := [], alts := [], laidByText := true, laidKinds := [.data, .data, .data, .data, .sentinel, .sentinel], laidTests := true, laidLooks := .later }
def CellEncodesUptoCardSaid : Prop := Claim7.holds Tryd.pinned (.plain (OpenSpec.upto cellEncodesSpec)) cellEncodesUptoCard

/-- THE SECOND FORM's CARD OF 'quillpenlaw17.CellDecodes'. -/
def cellDecodesUptoCard : Claim7 := { stood := { row := cellDecodesUptoRow, standIns := [], harness := (true, "90fcddb6661a9373be0ddd9ae852bf19da0519f8a585c89fce4a563e087ba28f"), looks := true }, kinds := [], alts := [], laidByText := true, laidKinds := [.data, .data, .data, .data, .sentinel, .sentinel], laidTests := true, laidLooks := .later }
def CellDecodesUptoCardSaid : Prop := Claim7.holds Tryd.pinned (.plain (OpenSpec.upto cellDecodesSpec)) cellDecodesUptoCard
end Rows
end Go.Proofs.YtpiphiieflnabaaDoor
