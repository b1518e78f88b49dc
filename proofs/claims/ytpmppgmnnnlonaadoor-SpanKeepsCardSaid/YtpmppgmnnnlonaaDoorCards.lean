/-
  DERIVED. GIVEN WITH THE SEED: THE CARDS: each row of YtpmppgmnnnlonaaDoorRows.lean that lists a variable, with what it lists TIED to the program's text (the seventh form; the later family's looks); each row that meets fmt, with fmt's text TOLD by the authors' own Lean function (tested against real Go, not proved from fmt's source: count such statements apart). THE CARD IS WHAT COUNTS. Prove the row's statement (the work); the ties are given (YtpmppgmnnnlonaaDoorTie.lean); close each card by the builder's one call (the guide's Derived/Test/ToyasCard.lean, 'card_holds'). Laid BY PROGRAM, IN A SANDBOX (cutbox-door.mjs). By AI agents, Wed Nov 11 2026. No macro, syntax, notation, axiom, sorry.
-/
import Derived.Test.YtpmppgmnnnlonaaDoorRows
import GoSem.ClaimSeven
namespace Go.Proofs.YtpmppgmnnnlonaaDoor
namespace Rows

/-- THE TIED CARD OF 'almanackeep.SpanComposes'. -/
def spanComposesCard : Claim7 := { stood := { row := spanComposesRow, standIns := [], harness := (true, "55dda7fd4b82c42de69c0d2b2f431d096f837f1e40ccdb35a59d37c5d3c185c4"), looks := true }, kinds := [], alts := [], laidByText := true, laidKinds := [.handle], laidTests := true, laidLooks := .later }
def SpanComposesCardSaid : Prop := Claim7.holds Tryd.pinned (.plain (OpenSpec.ofChange spanComposesSpec)) spanComposesCard

/-- THE TIED CARD OF 'almanaclaw.SpanWays'. -/
def spanWaysCard : Claim7 := { stood := { row := spanWaysRow, standIns := [], harness := (true, "55dda7fd4b82c42de69c0d2b2f431d096f837f1e40ccdb35a59d37c5d3c185c4"), looks := true }, kinds := [], alts := [], laidByText := true, laidKinds := [.handle], laidTests := true, laidLooks := .later }
def SpanWaysCardSaid : Prop := Claim7.holds Tryd.pinned (.plain (OpenSpec.ofChange spanWaysSpec)) spanWaysCard

/-- THE TIED CARD OF 'almanaclaw.SpanNets'. -/
def spanNetsCard : Claim7 := { stood := { row := spanNetsRow, standIns := [], harness := (true, "55dda7fd4b82c42de69c0d2b2f431d096f837f1e40ccdb35a59d37c5d3c185c4"), looks := true }, kinds := [], alts := [], laidByText := true, laidKinds := [.handle], laidTests := true, laidLooks := .later }
def SpanNetsCardSaid : Prop := Claim7.holds Tryd.pinned (.plain (OpenSpec.ofChange spanNetsSpec)) spanNetsCard

/-- THE TIED CARD OF 'almanaclaw.SpanSolves'. -/
def spanSolvesCard : Claim7 := { stood := { row := spanSolvesRow, standIns := [], harness := (true, "55dda7fd4b82c42de69c0d2b2f431d096f837f1e40ccdb35a59d37c5d3c185c4"), looks := true }, kinds := [], alts := [], laidByText := true, laidKinds := [.handle], laidTests := true, laidLooks := .later }
def SpanSolvesCardSaid : Prop := Claim7.holds Tryd.pinned (.plain (OpenSpec.ofChange spanSolvesSpec)) spanSolvesCard

/-- THE TIED CARD OF 'almanackeep.SpanKeeps'. -/
def spanKeepsCard : Claim7 := { stood := { row := spanKeepsRow, standIns := [], harness := (true, "55dda7fd4b82c42de69c0d2b2f431d096f837f1e40ccdb35a59d37c5d3c185c4"), looks := true }, kinds := [], alts := [], laidByText := true, laidKinds := [.handle], laidTests := true, laidLooks := .later }
def SpanKeepsCardSaid : Prop := Claim7.holds Tryd.pinned (.plain (OpenSpec.ofChange spanKeepsSpec)) spanKeepsCard

/-- THE SECOND FORM's CARD OF 'almanackeep.SpanComposes'. -/
def spanComposesUptoCard : Claim7 := { stood := { row := spanComposesUptoRow, standIns := [], harness := (true, "55dda7fd4b82c42de69c0d2b2f431d096f837f1e40ccdb35a59d37c5d3c185c4"), looks := true }, kinds := [], alts := [], laidByText := true, laidKinds := [.handle], laidTests := true, laidLooks := .later }
def SpanComposesUptoCardSaid : Prop := Claim7.holds Tryd.pinned (.plain (OpenSpec.upto spanComposesSpec)) spanComposesUptoCard

/-- THE SECOND FORM's CARD OF 'almanaclaw.SpanWays'. -/
def spanWaysUptoCard : Claim7 := { stood := { row := spanWaysUptoRow, standIns := [], harness := (true, "55dda7fd4b82c42de69c0d2b2f431d096f837f1e40ccdb35a59d37c5d3c185c4"), looks := true }, kinds := [], alts := [], laidByText := true, laidKinds := [.handle], laidTests := true, laidLooks := .later }
def SpanWaysUptoCardSaid : Prop := Claim7.holds Tryd.pinned (.plain (OpenSpec.upto spanWaysSpec)) spanWaysUptoCard

/-- THE SECOND FORM's CARD OF 'almanaclaw.SpanNets'. -/
def spanNetsUptoCard : Claim7 := { stood := { row := spanNetsUptoRow, standIns := [], harness := (true, "55dda7fd4b82c42de69c0d2b2f431d096f837f1e40ccdb35a59d37c5d3c185c4"), looks := true }, kinds := [], alts := [], laidByText := true, laidKinds := [.handle], laidTests := true, laidLooks := .later }
def SpanNetsUptoCardSaid : Prop := Claim7.holds Tryd.pinned (.plain (OpenSpec.upto spanNetsSpec)) spanNetsUptoCard

/-- THE SECOND FORM's CARD OF 'almanaclaw.SpanSolves'. -/
def spanSolvesUptoCard : Claim7 := { stood := { row := spanSolvesUptoRow, standIns := [], harness := (true, "55dda7fd4b82c42de69c0d2b2f431d096f837f1e40ccdb35a59d37c5d3c185c4"), looks := true }, kinds := [], alts := [], laidByText := true, laidKinds := [.handle], laidTests := true, laidLooks := .later }
def SpanSolvesUptoCardSaid : Prop := Claim7.holds Tryd.pinned (.plain (OpenSpec.upto spanSolvesSpec)) spanSolvesUptoCard

/-- THE SECOND FORM's CARD OF 'almanackeep.SpanKeeps'. -/
def spanKeepsUptoCard : Claim7 := { stood := { row := spanKeepsUptoRow, standIns := [], harness := (true, "55dda7fd4b82c42de69c0d2b2f431d096f837f1e40ccdb35a59d37c5d3c185c4"), looks := true }, kinds := [], alts := [], laidByText := true, laidKinds := [.handle], laidTests := true, laidLooks := .later }
def SpanKeepsUptoCardSaid : Prop := Claim7.holds Tryd.pinned (.plain (OpenSpec.upto spanKeepsSpec)) spanKeepsUptoCard
end Rows
end Go.Proofs.YtpmppgmnnnlonaaDoor
