/-
  DERIVED. GIVEN WITH THE SEED: THE CARDS: each row of YtbmndenopgkpoaaDoorRows.lean that lists a variable, with what it lists TIED to the program's text (the seventh form; the later family's looks); each row that meets fmt, with fmt's text TOLD by the authors' own Lean function (tested against real Go, not proved from fmt's source: count such statements apart). THE CARD IS WHAT COUNTS. Prove the row's statement (the work); the ties are given (YtbmndenopgkpoaaDoorTie.lean); close each card by the builder's one call (the guide's Derived/Test/ToyasCard.lean, 'card_holds'). Laid BY PROGRAM, IN A SANDBOX (cutbox-door.mjs). By AI agents, Wed Nov 11 2026. No macro, syntax, notation, axiom, sorry.
-/
import Derived.Test.YtbmndenopgkpoaaDoorRows
import GoSem.ClaimSeven
namespace Go.Proofs.YtbmndenopgkpoaaDoor
namespace Rows

/-- THE TIED CARD OF 'almanaclaw.BusyFinds'. -/
def busyFindsCard : Claim7 := { stood := { row := busyFindsRow, standIns := [], harness := (true, "224ed87832ec91d785fb429fa4a7322812fa0b623df9340b63134cdd75307b22"), looks := true }, kinds := [], alts := [], laidByText := true, laidKinds := [.handle], laidTests := true, laidLooks := .later }
def BusyFindsCardSaid : Prop := Claim7.holds Tryd.pinned (.plain (OpenSpec.ofChange busyFindsSpec)) busyFindsCard

/-- THE TIED CARD OF 'almanackeep.BusyBest'. -/
def busyBestCard : Claim7 := { stood := { row := busyBestRow, standIns := [], harness := (true, "224ed87832ec91d785fb429fa4a7322812fa0b623df9340b63134cdd75307b22"), looks := true }, kinds := [], alts := [], laidByText := true, laidKinds := [.handle], laidTests := true, laidLooks := .later }
def BusyBestCardSaid : Prop := Claim7.holds Tryd.pinned (.plain (OpenSpec.ofChange busyBestSpec)) busyBestCard

/-- THE SECOND FORM's CARD OF 'almanaclaw.BusyFinds'. -/
def busyFindsUptoCard : Claim7 := { stood := { row := busyFindsUptoRow, standIns := [], harness := (true, "224ed87832ec91d785fb429fa4a7322812fa0b623df9340b63134cdd75307b22"), looks := true }, kinds := [], alts := [], laidByText := true, laidKinds := [.handle], laidTests := true, laidLooks := .later }
def BusyFindsUptoCardSaid : Prop := Claim7.holds Tryd.pinned (.plain (OpenSpec.upto busyFindsSpec)) busyFindsUptoCard

/-- THE SECOND FORM's CARD OF 'almanackeep.BusyBest'. -/
def busyBestUptoCard : Claim7 := { stood := { row := busyBestUptoRow, standIns := [], harness := (true, "224ed87832ec91d785fb429fa4a7322812fa0b623df9340b63134cdd75307b22"), looks := true }, kinds := [], alts := [], laidByText := true, laidKinds := [.handle], laidTests := true, laidLooks := .later }
def BusyBestUptoCardSaid : Prop := Claim7.holds Tryd.pinned (.plain (OpenSpec.upto busyBestSpec)) busyBestUptoCard
end Rows
end Go.Proofs.YtbmndenopgkpoaaDoor
