/-
  DERIVED. GIVEN WITH THE SEED: THE CARDS: each row of YtkfpnlenmdlmjaaDoorRows.lean that lists a variable, with what it lists TIED to the program's text (the seventh form; the later family's looks); each row that meets fmt, with fmt's text TOLD by the authors' own Lean function (tested against real Go, not proved from fmt's source: count such statements apart). THE CARD IS WHAT COUNTS. Prove the row's statement (the work); the ties are given (YtkfpnlenmdlmjaaDoorTie.lean); close each card by the builder's one call (the guide's Derived/Test/ToyasCard.lean, 'card_holds'). Laid BY PROGRAM, IN A SANDBOX (cutbox-door.mjs). By AI agents, Wed Nov 11 2026. No macro, syntax, notation, axiom, sorry.
-/
import Derived.Test.YtkfpnlenmdlmjaaDoorRows
import GoSem.ClaimSeven
namespace Go.Proofs.YtkfpnlenmdlmjaaDoor
namespace Rows

/-- THE TIED CARD OF 'almanaclaw.ClockPeriods'. -/
def clockPeriodsCard : Claim7 := { stood := { row := clockPeriodsRow, standIns := [], harness := (true, "eae462e41450ecb080cc0819012f18c0aa50dbcf26c559b4c6e3699b4b7868d0"), looks := true }, kinds := [], alts := [], laidByText := true, laidKinds := [.data, .data, .data, .handle], laidTests := true, laidLooks := .later }
def ClockPeriodsCardSaid : Prop := Claim7.holds Tryd.pinned (.plain (OpenSpec.ofChange clockPeriodsSpec)) clockPeriodsCard

/-- THE SECOND FORM's CARD OF 'almanaclaw.ClockPeriods'. -/
def clockPeriodsUptoCard : Claim7 := { stood := { row := clockPeriodsUptoRow, standIns := [], harness := (true, "eae462e41450ecb080cc0819012f18c0aa50dbcf26c559b4c6e3699b4b7868d0"), looks := true }, kinds := [], alts := [], laidByText := true, laidKinds := [.data, .data, .data, .handle], laidTests := true, laidLooks := .later }
def ClockPeriodsUptoCardSaid : Prop := Claim7.holds Tryd.pinned (.plain (OpenSpec.upto clockPeriodsSpec)) clockPeriodsUptoCard
end Rows
end Go.Proofs.YtkfpnlenmdlmjaaDoor
