/-
  DERIVED. GIVEN WITH THE SEED: THE CARDS: each row of YthlpknmfpbhlhaaDoorRows.lean that lists a variable, with what it lists TIED to the program's text (the seventh form; the later family's looks); each row that meets fmt, with fmt's text TOLD by the authors' own Lean function (tested against real Go, not proved from fmt's source: count such statements apart). THE CARD IS WHAT COUNTS. Prove the row's statement (the work); the ties are given (YthlpknmfpbhlhaaDoorTie.lean); close each card by the builder's one call (the guide's Derived/Test/ToyasCard.lean, 'card_holds'). Laid BY PROGRAM, IN A SANDBOX (cutbox-door.mjs). By AI agents, Wed Nov 11 2026. No macro, syntax, notation, axiom, sorry.
-/
import Derived.Test.YthlpknmfpbhlhaaDoorRows
import GoSem.ClaimSeven
namespace Go.Proofs.YthlpknmfpbhlhaaDoor
namespace Rows

/-- THE TIED CARD OF 'almanaclaw.TextLists'. -/
def textListsCard : Claim7 := { stood := { row := textListsRow, standIns := [], harness := (true, "c19332e8ec235697bae2cc4770ee3dbafec8f805911a16edcb48a1ca3dde1d7e"), looks := true }, kinds := [], alts := [], laidByText := true, laidKinds := [.handle], laidTests := true, laidLooks := .later }
def TextListsCardSaid : Prop := Claim7.holds Tryd.pinned (.plain (OpenSpec.ofChange textListsSpec)) textListsCard

/-- THE SECOND FORM's CARD OF 'almanaclaw.TextLists'. -/
def textListsUptoCard : Claim7 := { stood := { row := textListsUptoRow, standIns := [], harness := (true, "c19332e8ec235697bae2cc4770ee3dbafec8f805911a16edcb48a1ca3dde1d7e"), looks := true }, kinds := [], alts := [], laidByText := true, laidKinds := [.handle], laidTests := true, laidLooks := .later }
def TextListsUptoCardSaid : Prop := Claim7.holds Tryd.pinned (.plain (OpenSpec.upto textListsSpec)) textListsUptoCard
end Rows
end Go.Proofs.YthlpknmfpbhlhaaDoor
