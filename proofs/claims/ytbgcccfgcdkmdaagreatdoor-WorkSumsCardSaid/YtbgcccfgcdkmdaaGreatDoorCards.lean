/-
  DERIVED. GIVEN WITH THE SEED: THE CARDS: each row of YtbgcccfgcdkmdaaGreatDoorRows.lean that lists a variable, with what it lists TIED to the program's text (the seventh form; the later family's looks); each row that meets fmt, with fmt's text TOLD by the authors' own Lean function (tested against real Go, not proved from fmt's source: count such statements apart). THE CARD IS WHAT COUNTS. Prove the row's statement (the work); the ties are given (YtbgcccfgcdkmdaaGreatDoorTie.lean); close each card by the builder's one call (the guide's Derived/Test/ToyasCard.lean, 'card_holds'). Laid BY PROGRAM, IN A SANDBOX (cutbox-door.mjs). By AI agents, Wed Nov 11 2026. No macro, syntax, notation, axiom, sorry.
-/
import Derived.Test.YtbgcccfgcdkmdaaGreatDoorRows
import GoSem.ClaimSeven
namespace Go.Proofs.YtbgcccfgcdkmdaaGreatDoor
namespace Rows

/-- THE TIED CARD OF 'almanaclaw.WorkHolidays'. -/
def workHolidaysCard : Claim7 := { stood := { row := workHolidaysRow, standIns := [], harness := (true, "6c4a5ac3bd5236e8a5f88c297469979f4172fecce30902490d0fe3e9a8edf9d7"), looks := true }, kinds := [], alts := [], laidByText := true, laidKinds := [.handle, .data], laidTests := true, laidLooks := .later }
def WorkHolidaysCardSaid : Prop := Claim7.holds Tryz.pinned (.plain (OpenSpec.ofChange workHolidaysSpec)) workHolidaysCard

/-- THE TIED CARD OF 'almanaclaw.WorkTimes'. -/
def workTimesCard : Claim7 := { stood := { row := workTimesRow, standIns := [], harness := (true, "6c4a5ac3bd5236e8a5f88c297469979f4172fecce30902490d0fe3e9a8edf9d7"), looks := true }, kinds := [], alts := [], laidByText := true, laidKinds := [.handle, .data], laidTests := true, laidLooks := .later }
def WorkTimesCardSaid : Prop := Claim7.holds Tryz.pinned (.plain (OpenSpec.ofChange workTimesSpec)) workTimesCard

/-- THE TIED CARD OF 'almanackeep.WorkSums'. -/
def workSumsCard : Claim7 := { stood := { row := workSumsRow, standIns := [], harness := (true, "6c4a5ac3bd5236e8a5f88c297469979f4172fecce30902490d0fe3e9a8edf9d7"), looks := true }, kinds := [], alts := [], laidByText := true, laidKinds := [.handle, .data], laidTests := true, laidLooks := .later }
def WorkSumsCardSaid : Prop := Claim7.holds Tryz.pinned (.plain (OpenSpec.ofChange workSumsSpec)) workSumsCard

/-- THE TIED CARD OF 'almanaclaw.WorkDays'. -/
def workDaysCard : Claim7 := { stood := { row := workDaysRow, standIns := [], harness := (true, "6c4a5ac3bd5236e8a5f88c297469979f4172fecce30902490d0fe3e9a8edf9d7"), looks := true }, kinds := [], alts := [], laidByText := true, laidKinds := [.handle, .data], laidTests := true, laidLooks := .later }
def WorkDaysCardSaid : Prop := Claim7.holds Tryz.pinned (.plain (OpenSpec.ofChange workDaysSpec)) workDaysCard

/-- THE TIED CARD OF 'almanackeep.WorkCounts'. -/
def workCountsCard : Claim7 := { stood := { row := workCountsRow, standIns := [], harness := (true, "6c4a5ac3bd5236e8a5f88c297469979f4172fecce30902490d0fe3e9a8edf9d7"), looks := true }, kinds := [], alts := [], laidByText := true, laidKinds := [.handle, .data], laidTests := true, laidLooks := .later }
def WorkCountsCardSaid : Prop := Claim7.holds Tryz.pinned (.plain (OpenSpec.ofChange workCountsSpec)) workCountsCard

/-- THE SECOND FORM's CARD OF 'almanaclaw.WorkHolidays'. -/
def workHolidaysUptoCard : Claim7 := { stood := { row := workHolidaysUptoRow, standIns := [], harness := (true, "6c4a5ac3bd5236e8a5f88c297469979f4172fecce30902490d0fe3e9a8edf9d7"), looks := true }, kinds := [], alts := [], laidByText := true, laidKinds := [.handle, .data], laidTests := true, laidLooks := .later }
def WorkHolidaysUptoCardSaid : Prop := Claim7.holds Tryz.pinned (.plain (OpenSpec.upto workHolidaysSpec)) workHolidaysUptoCard

/-- THE SECOND FORM's CARD OF 'almanaclaw.WorkTimes'. -/
def workTimesUptoCard : Claim7 := { stood := { row := workTimesUptoRow, standIns := [], harness := (true, "6c4a5ac3bd5236e8a5f88c297469979f4172fecce30902490d0fe3e9a8edf9d7"), looks := true }, kinds := [], alts := [], laidByText := true, laidKinds := [.handle, .data], laidTests := true, laidLooks := .later }
def WorkTimesUptoCardSaid : Prop := Claim7.holds Tryz.pinned (.plain (OpenSpec.upto workTimesSpec)) workTimesUptoCard

/-- THE SECOND FORM's CARD OF 'almanackeep.WorkSums'. -/
def workSumsUptoCard : Claim7 := { stood := { row := workSumsUptoRow, standIns := [], harness := (true, "6c4a5ac3bd5236e8a5f88c297469979f4172fecce30902490d0fe3e9a8edf9d7"), looks := true }, kinds := [], alts := [], laidByText := true, laidKinds := [.handle, .data], laidTests := true, laidLooks := .later }
def WorkSumsUptoCardSaid : Prop := Claim7.holds Tryz.pinned (.plain (OpenSpec.upto workSumsSpec)) workSumsUptoCard

/-- THE SECOND FORM's CARD OF 'almanaclaw.WorkDays'. -/
def workDaysUptoCard : Claim7 := { stood := { row := workDaysUptoRow, standIns := [], harness := (true, "6c4a5ac3bd5236e8a5f88c297469979f4172fecce30902490d0fe3e9a8edf9d7"), looks := true }, kinds := [], alts := [], laidByText := true, laidKinds := [.handle, .data], laidTests := true, laidLooks := .later }
def WorkDaysUptoCardSaid : Prop := Claim7.holds Tryz.pinned (.plain (OpenSpec.upto workDaysSpec)) workDaysUptoCard

/-- THE SECOND FORM's CARD OF 'almanackeep.WorkCounts'. -/
def workCountsUptoCard : Claim7 := { stood := { row := workCountsUptoRow, standIns := [], harness := (true, "6c4a5ac3bd5236e8a5f88c297469979f4172fecce30902490d0fe3e9a8edf9d7"), looks := true }, kinds := [], alts := [], laidByText := true, laidKinds := [.handle, .data], laidTests := true, laidLooks := .later }
def WorkCountsUptoCardSaid : Prop := Claim7.holds Tryz.pinned (.plain (OpenSpec.upto workCountsSpec)) workCountsUptoCard
end Rows
end Go.Proofs.YtbgcccfgcdkmdaaGreatDoor
