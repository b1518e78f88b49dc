/-
  DERIVED. GIVEN WITH THE SEED: THE CARDS: each row of YtikhjlankomghaaDoorRows.lean that lists a variable, with what it lists TIED to the program's text (the seventh form; the later family's looks); each row that meets fmt, with fmt's text TOLD by the authors' own Lean function (tested against real Go, not proved from fmt's source: count such statements apart). THE CARD IS WHAT COUNTS. Prove the row's statement (the work); the ties are given (YtikhjlankomghaaDoorTie.lean); close each card by the builder's one call (the guide's Derived/Test/ToyasCard.lean, 'card_holds'). Laid BY PROGRAM, IN A SANDBOX (cutbox-door.mjs). By AI agents, Wed Nov 11 2026. No macro, syntax, notation, axiom, sorry.
-/
import Derived.Test.YtikhjlankomghaaDoorRows
import GoSem.ClaimSeven
namespace Go.Proofs.YtikhjlankomghaaDoor
namespace Rows

/-- THE TIED CARD OF 'almanackeep.MomentsRoom'. -/
def momentsRoomCard : Claim7 := { stood := { row := momentsRoomRow, standIns := [], harness := (true, "0bdc092cd432816cd7a9767b7f5c444fe9a6b7a89143355e71cbb2c7df75a228"), looks := true }, kinds := [], alts := [], laidByText := true, laidKinds := [.handle], laidTests := true, laidLooks := .later }
def MomentsRoomCardSaid : Prop := Claim7.holds Tryd.pinned (.plain (OpenSpec.ofChange momentsRoomSpec)) momentsRoomCard

/-- THE TIED CARD OF 'almanaclaw.MomentsPlays'. -/
def momentsPlaysCard : Claim7 := { stood := { row := momentsPlaysRow, standIns := [], harness := (true, "0bdc092cd432816cd7a9767b7f5c444fe9a6b7a89143355e71cbb2c7df75a228"), looks := true }, kinds := [], alts := [], laidByText := true, laidKinds := [.handle], laidTests := true, laidLooks := .later }
def MomentsPlaysCardSaid : Prop := Claim7.holds Tryd.pinned (.plain (OpenSpec.ofChange momentsPlaysSpec)) momentsPlaysCard

/-- THE SECOND FORM's CARD OF 'almanackeep.MomentsRoom'. -/
def momentsRoomUptoCard : Claim7 := { stood := { row := momentsRoomUptoRow, standIns := [], harness := (true, "0bdc092cd432816cd7a9767b7f5c444fe9a6b7a89143355e71cbb2c7df75a228"), looks := true }, kinds := [], alts := [], laidByText := true, laidKinds := [.handle], laidTests := true, laidLooks := .later }
def MomentsRoomUptoCardSaid : Prop := Claim7.holds Tryd.pinned (.plain (OpenSpec.upto momentsRoomSpec)) momentsRoomUptoCard

/-- THE SECOND FORM's CARD OF 'almanaclaw.MomentsPlays'. -/
def momentsPlaysUptoCard : Claim7 := { stood := { row := momentsPlaysUptoRow, standIns := [], harness := (true, "0bdc092cd432816cd7a9767b7f5c444fe9a6b7a89143355e71cbb2c7df75a228"), looks := true }, kinds := [], alts := [], laidByText := true, laidKinds := [.handle], laidTests := true, laidLooks := .later }
def MomentsPlaysUptoCardSaid : Prop := Claim7.holds Tryd.pinned (.plain (OpenSpec.upto momentsPlaysSpec)) momentsPlaysUptoCard
end Rows
end Go.Proofs.YtikhjlankomghaaDoor
