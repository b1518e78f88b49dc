/-
  DERIVED. GIVEN WITH THE SEED: THE CARDS: each row of YtpchkfnfipdilaaDoorRows.lean that lists a variable, with what it lists TIED to the program's text (the seventh form; the later family's looks); each row that meets fmt, with fmt's text TOLD by the authors' own Lean function (tested against real Go, not proved from fmt's source: count such statements apart). THE CARD IS WHAT COUNTS. Prove the row's statement (the work); the ties are given (YtpchkfnfipdilaaDoorTie.lean); close each card by the builder's one call (the guide's Derived/Test/ToyasCard.lean, 'card_holds'). Laid BY PROGRAM, IN A SANDBOX (cutbox-door.mjs). By AI agents, Wed Nov 11 2026. No macro, syntax, notation, axiom, sorry.
-/
import Derived.Test.YtpchkfnfipdilaaDoorRows
import GoSem.ClaimSeven
namespace Go.Proofs.YtpchkfnfipdilaaDoor
namespace Rows

/-- THE TIED CARD OF 'almanaclaw.ClockParts'. -/
def clockPartsCard : Claim7 := { stood := { row := clockPartsRow, standIns := [], harness := (true, "780579e6f17fa212eaed0338a3979edf25f2ad27432240e01844a5f05c697ff5"), looks := true }, kinds := [], alts := [], laidByText := true, laidKinds := [.handle, .data], laidTests := true, laidLooks := .later }
def ClockPartsCardSaid : Prop := Claim7.holds Tryd.pinned (.plain (OpenSpec.ofChange clockPartsSpec)) clockPartsCard

/-- THE TIED CARD OF 'almanaclaw.ClockAdds'. -/
def clockAddsCard : Claim7 := { stood := { row := clockAddsRow, standIns := [], harness := (true, "780579e6f17fa212eaed0338a3979edf25f2ad27432240e01844a5f05c697ff5"), looks := true }, kinds := [], alts := [], laidByText := true, laidKinds := [.handle, .data], laidTests := true, laidLooks := .later }
def ClockAddsCardSaid : Prop := Claim7.holds Tryd.pinned (.plain (OpenSpec.ofChange clockAddsSpec)) clockAddsCard

/-- THE TIED CARD OF 'almanaclaw.ClockSince'. -/
def clockSinceCard : Claim7 := { stood := { row := clockSinceRow, standIns := [], harness := (true, "780579e6f17fa212eaed0338a3979edf25f2ad27432240e01844a5f05c697ff5"), looks := true }, kinds := [], alts := [], laidByText := true, laidKinds := [.handle, .data], laidTests := true, laidLooks := .later }
def ClockSinceCardSaid : Prop := Claim7.holds Tryd.pinned (.plain (OpenSpec.ofChange clockSinceSpec)) clockSinceCard

/-- THE TIED CARD OF 'almanackeep.ClockRound'. -/
def clockRoundCard : Claim7 := { stood := { row := clockRoundRow, standIns := [], harness := (true, "780579e6f17fa212eaed0338a3979edf25f2ad27432240e01844a5f05c697ff5"), looks := true }, kinds := [], alts := [], laidByText := true, laidKinds := [.handle, .data], laidTests := true, laidLooks := .later }
def ClockRoundCardSaid : Prop := Claim7.holds Tryd.pinned (.plain (OpenSpec.ofChange clockRoundSpec)) clockRoundCard

/-- THE SECOND FORM's CARD OF 'almanaclaw.ClockParts'. -/
def clockPartsUptoCard : Claim7 := { stood := { row := clockPartsUptoRow, standIns := [], harness := (true, "780579e6f17fa212eaed0338a3979edf25f2ad27432240e01844a5f05c697ff5"), looks := true }, kinds := [], alts := [], laidByText := true, laidKinds := [.handle, .data], laidTests := true, laidLooks := .later }
def ClockPartsUptoCardSaid : Prop := Claim7.holds Tryd.pinned (.plain (OpenSpec.upto clockPartsSpec)) clockPartsUptoCard

/-- THE SECOND FORM's CARD OF 'almanaclaw.ClockAdds'. -/
def clockAddsUptoCard : Claim7 := { stood := { row := clockAddsUptoRow, standIns := [], harness := (true, "780579e6f17fa212eaed0338a3979edf25f2ad27432240e01844a5f05c697ff5"), looks := true }, kinds := [], alts := [], laidByText := true, laidKinds := [.handle, .data], laidTests := true, laidLooks := .later }
def ClockAddsUptoCardSaid : Prop := Claim7.holds Tryd.pinned (.plain (OpenSpec.upto clockAddsSpec)) clockAddsUptoCard

/-- THE SECOND FORM's CARD OF 'almanaclaw.ClockSince'. -/
def clockSinceUptoCard : Claim7 := { stood := { row := clockSinceUptoRow, standIns := [], harness := (true, "780579e6f17fa212eaed0338a3979edf25f2ad27432240e01844a5f05c697ff5"), looks := true }, kinds := [], alts := [], laidByText := true, laidKinds := [.handle, .data], laidTests := true, laidLooks := .later }
def ClockSinceUptoCardSaid : Prop := Claim7.holds Tryd.pinned (.plain (OpenSpec.upto clockSinceSpec)) clockSinceUptoCard

/-- THE SECOND FORM's CARD OF 'almanackeep.ClockRound'. -/
def clockRoundUptoCard : Claim7 := { stood := { row := clockRoundUptoRow, standIns := [], harness := (true, "780579e6f17fa212eaed0338a3979edf25f2ad27432240e01844a5f05c697ff5"), looks := true }, kinds := [], alts := [], laidByText := true, laidKinds := [.handle, .data], laidTests := true, laidLooks := .later }
def ClockRoundUptoCardSaid : Prop := Claim7.holds Tryd.pinned (.plain (OpenSpec.upto clockRoundSpec)) clockRoundUptoCard
end Rows
end Go.Proofs.YtpchkfnfipdilaaDoor
