/-
  DERIVED. GIVEN WITH THE SEED: THE CARDS: each row of YtajnpdaljocnnaaDoorRows.lean that lists a variable, with what it lists TIED to the program's text (the seventh form; the later family's looks); each row that meets fmt, with fmt's text TOLD by the authors' own Lean function (tested against real Go, not proved from fmt's source: count such statements apart). THE CARD IS WHAT COUNTS. Prove the row's statement (the work); the ties are given (YtajnpdaljocnnaaDoorTie.lean); close each card by the builder's one call (the guide's Derived/Test/ToyasCard.lean, 'card_holds'). Laid BY PROGRAM, IN A SANDBOX (cutbox-door.mjs). By AI agents, Wed Nov 11 2026. No macro, syntax, notation, axiom, sorry.
-/
import Derived.Test.YtajnpdaljocnnaaDoorRows
import GoSem.ClaimSeven
namespace Go.Proofs.YtajnpdaljocnnaaDoor
namespace Rows

/-- THE TIED CARD OF 'almanaclaw.DaysMaya'. -/
def daysMayaCard : Claim7 := { stood := { row := daysMayaRow, standIns := [], harness := (true, "207315234a45ba1c30f25a3f3b1f5f42ef02fb25319532718623d8dd7d10209b"), looks := true }, kinds := [], alts := [], laidByText := true, laidKinds := [.handle], laidTests := true, laidLooks := .later }
def DaysMayaCardSaid : Prop := Claim7.holds Tryd.pinned (.plain (OpenSpec.ofChange daysMayaSpec)) daysMayaCard

/-- THE TIED CARD OF 'almanackeep.DaysRound'. -/
def daysRoundCard : Claim7 := { stood := { row := daysRoundRow, standIns := [], harness := (true, "207315234a45ba1c30f25a3f3b1f5f42ef02fb25319532718623d8dd7d10209b"), looks := true }, kinds := [], alts := [], laidByText := true, laidKinds := [.handle], laidTests := true, laidLooks := .later }
def DaysRoundCardSaid : Prop := Claim7.holds Tryd.pinned (.plain (OpenSpec.ofChange daysRoundSpec)) daysRoundCard

/-- THE TIED CARD OF 'almanaclaw.DaysOf'. -/
def daysOfCard : Claim7 := { stood := { row := daysOfRow, standIns := [], harness := (true, "207315234a45ba1c30f25a3f3b1f5f42ef02fb25319532718623d8dd7d10209b"), looks := true }, kinds := [], alts := [], laidByText := true, laidKinds := [.handle, .data], laidTests := true, laidLooks := .later }
def DaysOfCardSaid : Prop := Claim7.holds Tryd.pinned (.plain (OpenSpec.ofChange daysOfSpec)) daysOfCard

/-- THE TIED CARD OF 'almanaclaw.DaysDates'. -/
def daysDatesCard : Claim7 := { stood := { row := daysDatesRow, standIns := [], harness := (true, "207315234a45ba1c30f25a3f3b1f5f42ef02fb25319532718623d8dd7d10209b"), looks := true }, kinds := [], alts := [], laidByText := true, laidKinds := [.handle, .data], laidTests := true, laidLooks := .later }
def DaysDatesCardSaid : Prop := Claim7.holds Tryd.pinned (.plain (OpenSpec.ofChange daysDatesSpec)) daysDatesCard

/-- THE TIED CARD OF 'almanaclaw.DaysLeaps'. -/
def daysLeapsCard : Claim7 := { stood := { row := daysLeapsRow, standIns := [], harness := (true, "207315234a45ba1c30f25a3f3b1f5f42ef02fb25319532718623d8dd7d10209b"), looks := true }, kinds := [], alts := [], laidByText := true, laidKinds := [.handle, .data], laidTests := true, laidLooks := .later }
def DaysLeapsCardSaid : Prop := Claim7.holds Tryd.pinned (.plain (OpenSpec.ofChange daysLeapsSpec)) daysLeapsCard

/-- THE TIED CARD OF 'almanaclaw.DaysEasters'. -/
def daysEastersCard : Claim7 := { stood := { row := daysEastersRow, standIns := [], harness := (true, "207315234a45ba1c30f25a3f3b1f5f42ef02fb25319532718623d8dd7d10209b"), looks := true }, kinds := [], alts := [], laidByText := true, laidKinds := [.handle, .data], laidTests := true, laidLooks := .later }
def DaysEastersCardSaid : Prop := Claim7.holds Tryd.pinned (.plain (OpenSpec.ofChange daysEastersSpec)) daysEastersCard

/-- THE TIED CARD OF 'almanackeep.DaysKeep'. -/
def daysKeepCard : Claim7 := { stood := { row := daysKeepRow, standIns := [], harness := (true, "207315234a45ba1c30f25a3f3b1f5f42ef02fb25319532718623d8dd7d10209b"), looks := true }, kinds := [], alts := [], laidByText := true, laidKinds := [.handle, .data], laidTests := true, laidLooks := .later }
def DaysKeepCardSaid : Prop := Claim7.holds Tryd.pinned (.plain (OpenSpec.ofChange daysKeepSpec)) daysKeepCard

/-- THE TIED CARD OF 'almanaclaw.DaysWeeks'. -/
def daysWeeksCard : Claim7 := { stood := { row := daysWeeksRow, standIns := [], harness := (true, "207315234a45ba1c30f25a3f3b1f5f42ef02fb25319532718623d8dd7d10209b"), looks := true }, kinds := [], alts := [], laidByText := true, laidKinds := [.handle, .data], laidTests := true, laidLooks := .later }
def DaysWeeksCardSaid : Prop := Claim7.holds Tryd.pinned (.plain (OpenSpec.ofChange daysWeeksSpec)) daysWeeksCard

/-- THE TIED CARD OF 'almanackeep.DaysWeek'. -/
def daysWeekCard : Claim7 := { stood := { row := daysWeekRow, standIns := [], harness := (true, "207315234a45ba1c30f25a3f3b1f5f42ef02fb25319532718623d8dd7d10209b"), looks := true }, kinds := [], alts := [], laidByText := true, laidKinds := [.handle, .data], laidTests := true, laidLooks := .later }
def DaysWeekCardSaid : Prop := Claim7.holds Tryd.pinned (.plain (OpenSpec.ofChange daysWeekSpec)) daysWeekCard

/-- THE TIED CARD OF 'almanackeep.DaysMeet'. -/
def daysMeetCard : Claim7 := { stood := { row := daysMeetRow, standIns := [], harness := (true, "207315234a45ba1c30f25a3f3b1f5f42ef02fb25319532718623d8dd7d10209b"), looks := true }, kinds := [], alts := [], laidByText := true, laidKinds := [.handle, .data], laidTests := true, laidLooks := .later }
def DaysMeetCardSaid : Prop := Claim7.holds Tryd.pinned (.plain (OpenSpec.ofChange daysMeetSpec)) daysMeetCard

/-- THE TIED CARD OF 'almanackeep.DaysEaster'. -/
def daysEasterCard : Claim7 := { stood := { row := daysEasterRow, standIns := [], harness := (true, "207315234a45ba1c30f25a3f3b1f5f42ef02fb25319532718623d8dd7d10209b"), looks := true }, kinds := [], alts := [], laidByText := true, laidKinds := [.handle, .data], laidTests := true, laidLooks := .later }
def DaysEasterCardSaid : Prop := Claim7.holds Tryd.pinned (.plain (OpenSpec.ofChange daysEasterSpec)) daysEasterCard

/-- THE SECOND FORM's CARD OF 'almanaclaw.DaysMaya'. -/
def daysMayaUptoCard : Claim7 := { stood := { row := daysMayaUptoRow, standIns := [], harness := (true, "207315234a45ba1c30f25a3f3b1f5f42ef02fb25319532718623d8dd7d10209b"), looks := true }, kinds := [], alts := [], laidByText := true, laidKinds := [.handle], laidTests := true, laidLooks := .later }
def DaysMayaUptoCardSaid : Prop := Claim7.holds Tryd.pinned (.plain (OpenSpec.upto daysMayaSpec)) daysMayaUptoCard

/-- THE SECOND FORM's CARD OF 'almanackeep.DaysRound'. -/
def daysRoundUptoCard : Claim7 := { stood := { row := daysRoundUptoRow, standIns := [], harness := (true, "207315234a45ba1c30f25a3f3b1f5f42ef02fb25319532718623d8dd7d10209b"), looks := true }, kinds := [], alts := [], laidByText := true, laidKinds := [.handle], laidTests := true, laidLooks := .later }
def DaysRoundUptoCardSaid : Prop := Claim7.holds Tryd.pinned (.plain (OpenSpec.upto daysRoundSpec)) daysRoundUptoCard

/-- THE SECOND FORM's CARD OF 'almanaclaw.DaysOf'. -/
def daysOfUptoCard : Claim7 := { stood := { row := daysOfUptoRow, standIns := [], harness := (true, "207315234a45ba1c30f25a3f3b1f5f42ef02fb25319532718623d8dd7d10209b"), looks := true }, kinds := [], alts := [], laidByText := true, laidKinds := [.handle, .data], laidTests := true, laidLooks := .later }
def DaysOfUptoCardSaid : Prop := Claim7.holds Tryd.pinned (.plain (OpenSpec.upto daysOfSpec)) daysOfUptoCard

/-- THE SECOND FORM's CARD OF 'almanaclaw.DaysDates'. -/
def daysDatesUptoCard : Claim7 := { stood := { row := daysDatesUptoRow, standIns := [], harness := (true, "207315234a45ba1c30f25a3f3b1f5f42ef02fb25319532718623d8dd7d10209b"), looks := true }, kinds := [], alts := [], laidByText := true, laidKinds := [.handle, .data], laidTests := true, laidLooks := .later }
def DaysDatesUptoCardSaid : Prop := Claim7.holds Tryd.pinned (.plain (OpenSpec.upto daysDatesSpec)) daysDatesUptoCard

/-- THE SECOND FORM's CARD OF 'almanaclaw.DaysLeaps'. -/
def daysLeapsUptoCard : Claim7 := { stood := { row := daysLeapsUptoRow, standIns := [], harness := (true, "207315234a45ba1c30f25a3f3b1f5f42ef02fb25319532718623d8dd7d10209b"), looks := true }, kinds := [], alts := [], laidByText := true, laidKinds := [.handle, .data], laidTests := true, laidLooks := .later }
def DaysLeapsUptoCardSaid : Prop := Claim7.holds Tryd.pinned (.plain (OpenSpec.upto daysLeapsSpec)) daysLeapsUptoCard

/-- THE SECOND FORM's CARD OF 'almanaclaw.DaysEasters'. -/
def daysEastersUptoCard : Claim7 := { stood := { row := daysEastersUptoRow, standIns := [], harness := (true, "207315234a45ba1c30f25a3f3b1f5f42ef02fb25319532718623d8dd7d10209b"), looks := true }, kinds := [], alts := [], laidByText := true, laidKinds := [.handle, .data], laidTests := true, laidLooks := .later }
def DaysEastersUptoCardSaid : Prop := Claim7.holds Tryd.pinned (.plain (OpenSpec.upto daysEastersSpec)) daysEastersUptoCard

/-- THE SECOND FORM's CARD OF 'almanackeep.DaysKeep'. -/
def daysKeepUptoCard : Claim7 := { stood := { row := daysKeepUptoRow, standIns := [], harness := (true, "207315234a45ba1c30f25a3f3b1f5f42ef02fb25319532718623d8dd7d10209b"), looks := true }, kinds := [], alts := [], laidByText := true, laidKinds := [.handle, .data], laidTests := true, laidLooks := .later }
def DaysKeepUptoCardSaid : Prop := Claim7.holds Tryd.pinned (.plain (OpenSpec.upto daysKeepSpec)) daysKeepUptoCard

/-- THE SECOND FORM's CARD OF 'almanaclaw.DaysWeeks'. -/
def daysWeeksUptoCard : Claim7 := { stood := { row := daysWeeksUptoRow, standIns := [], harness := (true, "207315234a45ba1c30f25a3f3b1f5f42ef02fb25319532718623d8dd7d10209b"), looks := true }, kinds := [], alts := [], laidByText := true, laidKinds := [.handle, .data], laidTests := true, laidLooks := .later }
def DaysWeeksUptoCardSaid : Prop := Claim7.holds Tryd.pinned (.plain (OpenSpec.upto daysWeeksSpec)) daysWeeksUptoCard

/-- THE SECOND FORM's CARD OF 'almanackeep.DaysWeek'. -/
def daysWeekUptoCard : Claim7 := { stood := { row := daysWeekUptoRow, standIns := [], harness := (true, "207315234a45ba1c30f25a3f3b1f5f42ef02fb25319532718623d8dd7d10209b"), looks := true }, kinds := [], alts := [], laidByText := true, laidKinds := [.handle, .data], laidTests := true, laidLooks := .later }
def DaysWeekUptoCardSaid : Prop := Claim7.holds Tryd.pinned (.plain (OpenSpec.upto daysWeekSpec)) daysWeekUptoCard

/-- THE SECOND FORM's CARD OF 'almanackeep.DaysMeet'. -/
def daysMeetUptoCard : Claim7 := { stood := { row := daysMeetUptoRow, standIns := [], harness := (true, "207315234a45ba1c30f25a3f3b1f5f42ef02fb25319532718623d8dd7d10209b"), looks := true }, kinds := [], alts := [], laidByText := true, laidKinds := [.handle, .data], laidTests := true, laidLooks := .later }
def DaysMeetUptoCardSaid : Prop := Claim7.holds Tryd.pinned (.plain (OpenSpec.upto daysMeetSpec)) daysMeetUptoCard

/-- THE SECOND FORM's CARD OF 'almanackeep.DaysEaster'. -/
def daysEasterUptoCard : Claim7 := { stood := { row := daysEasterUptoRow, standIns := [], harness := (true, "207315234a45ba1c30f25a3f3b1f5f42ef02fb25319532718623d8dd7d10209b"), looks := true }, kinds := [], alts := [], laidByText := true, laidKinds := [.handle, .data], laidTests := true, laidLooks := .later }
def DaysEasterUptoCardSaid : Prop := Claim7.holds Tryd.pinned (.plain (OpenSpec.upto daysEasterSpec)) daysEasterUptoCard
end Rows
end Go.Proofs.YtajnpdaljocnnaaDoor
