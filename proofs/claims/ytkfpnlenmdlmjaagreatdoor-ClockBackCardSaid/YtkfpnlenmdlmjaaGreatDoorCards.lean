/-
  DERIVED. GIVEN WITH THE SEED: THE CARDS: each row of YtkfpnlenmdlmjaaGreatDoorRows.lean that lists a variable, with what it lists TIED to the program's text (the seventh form; the later family's looks); each row that meets fmt, with fmt's text TOLD by the authors' own Lean function (tested against real Go, not proved from fmt's source: count such statements apart). THE CARD IS WHAT COUNTS. Prove the row's statement (the work); the ties are given (YtkfpnlenmdlmjaaGreatDoorTie.lean); close each card by the builder's one call (the guide's Derived/Test/ToyasCard.lean, 'card_holds'). Laid BY PROGRAM, IN A SANDBOX (cutbox-door.mjs). By AI agents, Wed Nov 11 2026. No macro, syntax, notation, axiom, sorry.
-/
import Derived.Test.YtkfpnlenmdlmjaaGreatDoorRows
import GoSem.ClaimSeven
namespace Go.Proofs.YtkfpnlenmdlmjaaGreatDoor
namespace Rows

/-- THE TIED CARD OF 'almanaclaw.ClockParses'. -/
def clockParsesCard : Claim7 := { stood := { row := clockParsesRow, standIns := [], harness := (true, "85fb5fdc792ee05c44924a82dad20c64ea9d4fc026763ddbcd0ed75276faccd5"), looks := true }, kinds := [], alts := [], laidByText := true, laidKinds := [.handle, .data], laidTests := true, laidLooks := .later }
def ClockParsesCardSaid : Prop := Claim7.holds Tryz.pinned (.plain (OpenSpec.ofChange clockParsesSpec)) clockParsesCard

/-- THE TIED CARD OF 'almanaclaw.ClockTexts'. -/
def clockTextsCard : Claim7 := { stood := { row := clockTextsRow, standIns := [], harness := (true, "85fb5fdc792ee05c44924a82dad20c64ea9d4fc026763ddbcd0ed75276faccd5"), looks := true }, kinds := [], alts := [], laidByText := true, laidKinds := [.data, .data, .data, .handle, .data], laidTests := true, laidLooks := .later }
def ClockTextsCardSaid : Prop := Claim7.holds Tryz.pinned (.plain (OpenSpec.ofChange clockTextsSpec)) clockTextsCard

/-- THE TIED CARD OF 'almanaclaw.ClockSpans'. -/
def clockSpansCard : Claim7 := { stood := { row := clockSpansRow, standIns := [], harness := (true, "85fb5fdc792ee05c44924a82dad20c64ea9d4fc026763ddbcd0ed75276faccd5"), looks := true }, kinds := [], alts := [], laidByText := true, laidKinds := [.handle, .data], laidTests := true, laidLooks := .later }
def ClockSpansCardSaid : Prop := Claim7.holds Tryz.pinned (.plain (OpenSpec.ofChange clockSpansSpec)) clockSpansCard

/-- THE TIED CARD OF 'almanackeep.ClockBack'. -/
def clockBackCard : Claim7 := { stood := { row := clockBackRow, standIns := [], harness := (true, "85fb5fdc792ee05c44924a82dad20c64ea9d4fc026763ddbcd0ed75276faccd5"), looks := true }, kinds := [], alts := [], laidByText := true, laidKinds := [.data, .data, .data, .handle, .data], laidTests := true, laidLooks := .later }
def ClockBackCardSaid : Prop := Claim7.holds Tryz.pinned (.plain (OpenSpec.ofChange clockBackSpec)) clockBackCard

/-- THE SECOND FORM's CARD OF 'almanaclaw.ClockParses'. -/
def clockParsesUptoCard : Claim7 := { stood := { row := clockParsesUptoRow, standIns := [], harness := (true, "85fb5fdc792ee05c44924a82dad20c64ea9d4fc026763ddbcd0ed75276faccd5"), looks := true }, kinds := [], alts := [], laidByText := true, laidKinds := [.handle, .data], laidTests := true, laidLooks := .later }
def ClockParsesUptoCardSaid : Prop := Claim7.holds Tryz.pinned (.plain (OpenSpec.upto clockParsesSpec)) clockParsesUptoCard

/-- THE SECOND FORM's CARD OF 'almanaclaw.ClockTexts'. -/
def clockTextsUptoCard : Claim7 := { stood := { row := clockTextsUptoRow, standIns := [], harness := (true, "85fb5fdc792ee05c44924a82dad20c64ea9d4fc026763ddbcd0ed75276faccd5"), looks := true }, kinds := [], alts := [], laidByText := true, laidKinds := [.data, .data, .data, .handle, .data], laidTests := true, laidLooks := .later }
def ClockTextsUptoCardSaid : Prop := Claim7.holds Tryz.pinned (.plain (OpenSpec.upto clockTextsSpec)) clockTextsUptoCard

/-- THE SECOND FORM's CARD OF 'almanaclaw.ClockSpans'. -/
def clockSpansUptoCard : Claim7 := { stood := { row := clockSpansUptoRow, standIns := [], harness := (true, "85fb5fdc792ee05c44924a82dad20c64ea9d4fc026763ddbcd0ed75276faccd5"), looks := true }, kinds := [], alts := [], laidByText := true, laidKinds := [.handle, .data], laidTests := true, laidLooks := .later }
def ClockSpansUptoCardSaid : Prop := Claim7.holds Tryz.pinned (.plain (OpenSpec.upto clockSpansSpec)) clockSpansUptoCard

/-- THE SECOND FORM's CARD OF 'almanackeep.ClockBack'. -/
def clockBackUptoCard : Claim7 := { stood := { row := clockBackUptoRow, standIns := [], harness := (true, "85fb5fdc792ee05c44924a82dad20c64ea9d4fc026763ddbcd0ed75276faccd5"), looks := true }, kinds := [], alts := [], laidByText := true, laidKinds := [.data, .data, .data, .handle, .data], laidTests := true, laidLooks := .later }
def ClockBackUptoCardSaid : Prop := Claim7.holds Tryz.pinned (.plain (OpenSpec.upto clockBackSpec)) clockBackUptoCard
end Rows
end Go.Proofs.YtkfpnlenmdlmjaaGreatDoor
