/-
  DERIVED. GIVEN WITH THE SEED: THE CARDS: each row of YtmdgkchphmncpaaDoorRows.lean that lists a variable, with what it lists TIED to the program's text (the seventh form; the later family's looks); each row that meets fmt, with fmt's text TOLD by the authors' own Lean function (tested against real Go, not proved from fmt's source: count such statements apart). THE CARD IS WHAT COUNTS. Prove the row's statement (the work); the ties are given (YtmdgkchphmncpaaDoorTie.lean); close each card by the builder's one call (the guide's Derived/Test/ToyasCard.lean, 'card_holds'). Laid BY PROGRAM, IN A SANDBOX (cutbox-door.mjs). By AI agents, Wed Nov 11 2026. No macro, syntax, notation, axiom, sorry.
-/
import Derived.Test.YtmdgkchphmncpaaDoorRows
import GoSem.ClaimSeven
namespace Go.Proofs.YtmdgkchphmncpaaDoor
namespace Rows

/-- THE TIED CARD OF 'quillpenlaw06.WholeParses'. -/
def wholeParsesCard : Claim7 := { stood := { row := wholeParsesRow, standIns := [], harness := (true, "0ec0e3b1a71eb64719dc34f14a5c7b700bbd246c5768ef2e52cba7210d830441"), looks := false }, kinds := [], alts := [], laidByText := true, laidKinds := [.data], laidTests := true, laidLooks := .later }
def WholeParsesCardSaid : Prop := Claim7.holds Tryd.pinned (.plain (OpenSpec.ofChange wholeParsesSpec)) wholeParsesCard

/-- THE TIED CARD OF 'quillpenlaw06.WholeFront'. -/
def wholeFrontCard : Claim7 := { stood := { row := wholeFrontRow, standIns := [], harness := (true, "0ec0e3b1a71eb64719dc34f14a5c7b700bbd246c5768ef2e52cba7210d830441"), looks := false }, kinds := [], alts := [], laidByText := true, laidKinds := [.data], laidTests := true, laidLooks := .later }
def WholeFrontCardSaid : Prop := Claim7.holds Tryd.pinned (.plain (OpenSpec.ofChange wholeFrontSpec)) wholeFrontCard

/-- THE TIED CARD OF 'quillpenlaw06.WholeLimits'. -/
def wholeLimitsCard : Claim7 := { stood := { row := wholeLimitsRow, standIns := [], harness := (true, "0ec0e3b1a71eb64719dc34f14a5c7b700bbd246c5768ef2e52cba7210d830441"), looks := false }, kinds := [], alts := [], laidByText := true, laidKinds := [.data], laidTests := true, laidLooks := .later }
def WholeLimitsCardSaid : Prop := Claim7.holds Tryd.pinned (.plain (OpenSpec.ofChange wholeLimitsSpec)) wholeLimitsCard

/-- THE TIED CARD OF 'quillpenlaw06.WholeTells'. -/
def wholeTellsCard : Claim7 := { stood := { row := wholeTellsRow, standIns := [], harness := (true, "0ec0e3b1a71eb64719dc34f14a5c7b700bbd246c5768ef2e52cba7210d830441"), looks := false }, kinds := [], alts := [], laidByText := true, laidKinds := [.data], laidTests := true, laidLooks := .later }
def WholeTellsCardSaid : Prop := Claim7.holds Tryd.pinned (.plain (OpenSpec.ofChange wholeTellsSpec)) wholeTellsCard

/-- THE SECOND FORM's CARD OF 'quillpenlaw06.WholeParses'. -/
def wholeParsesUptoCard : Claim7 := { stood := { row := wholeParsesUptoRow, standIns := [], harness := (true, "0ec0e3b1a71eb64719dc34f14a5c7b700bbd246c5768ef2e52cba7210d830441"), looks := false }, kinds := [], alts := [], laidByText := true, laidKinds := [.data], laidTests := true, laidLooks := .later }
def WholeParsesUptoCardSaid : Prop := Claim7.holds Tryd.pinned (.plain (OpenSpec.upto wholeParsesSpec)) wholeParsesUptoCard

/-- THE SECOND FORM's CARD OF 'quillpenlaw06.WholeFront'. -/
def wholeFrontUptoCard : Claim7 := { stood := { row := wholeFrontUptoRow, standIns := [], harness := (true, "0ec0e3b1a71eb64719dc34f14a5c7b700bbd246c5768ef2e52cba7210d830441"), looks := false }, kinds := [], alts := [], laidByText := true, laidKinds := [.data], laidTests := true, laidLooks := .later }
def WholeFrontUptoCardSaid : Prop := Claim7.holds Tryd.pinned (.plain (OpenSpec.upto wholeFrontSpec)) wholeFrontUptoCard

/-- THE SECOND FORM's CARD OF 'quillpenlaw06.WholeLimits'. -/
def wholeLimitsUptoCard : Claim7 := { stood := { row := wholeLimitsUptoRow, standIns := [], harness := (true, "0ec0e3b1a71eb64719dc34f14a5c7b700bbd246c5768ef2e52cba7210d830441"), looks := false }, kinds := [], alts := [], laidByText := true, laidKinds := [.data], laidTests := true, laidLooks := .later }
def WholeLimitsUptoCardSaid : Prop := Claim7.holds Tryd.pinned (.plain (OpenSpec.upto wholeLimitsSpec)) wholeLimitsUptoCard

/-- THE SECOND FORM's CARD OF 'quillpenlaw06.WholeTells'. -/
def wholeTellsUptoCard : Claim7 := { stood := { row := wholeTellsUptoRow, standIns := [], harness := (true, "0ec0e3b1a71eb64719dc34f14a5c7b700bbd246c5768ef2e52cba7210d830441"), looks := false }, kinds := [], alts := [], laidByText := true, laidKinds := [.data], laidTests := true, laidLooks := .later }
def WholeTellsUptoCardSaid : Prop := Claim7.holds Tryd.pinned (.plain (OpenSpec.upto wholeTellsSpec)) wholeTellsUptoCard
end Rows
end Go.Proofs.YtmdgkchphmncpaaDoor
