/-
  DERIVED. GIVEN WITH THE SEED: THE CARDS: each row of YtdnbnpknmdcljaaDoorRows.lean that lists a variable, with what it lists TIED to the program's text (the seventh form; the later family's looks); each row that meets fmt, with fmt's text TOLD by the authors' own Lean function (tested against real Go, not proved from fmt's source: count such statements apart). THE CARD IS WHAT COUNTS. Prove the row's statement (the work); the ties are given (YtdnbnpknmdcljaaDoorTie.lean); close each card by the builder's one call (the guide's Derived/Test/ToyasCard.lean, 'card_holds'). Laid BY PROGRAM, IN A SANDBOX (cutbox-door.mjs). By AI agents, Wed Nov 11 2026. No macro, syntax, notation, axiom, sorry.
-/
import Derived.Test.YtdnbnpknmdcljaaDoorRows
import GoSem.ClaimSeven
namespace Go.Proofs.YtdnbnpknmdcljaaDoor
namespace Rows

/-- THE TIED CARD OF 'almanaclaw.CronTexts'. -/
def cronTextsCard : Claim7 := { stood := { row := cronTextsRow, standIns := [], harness := (true, "cd8044d705df70837ecf4d4b696f476bd99d23124b9ca81e23eaaf9200fb1fb5"), looks := true }, kinds := [], alts := [], laidByText := true, laidKinds := [.data, .data, .data, .handle], laidTests := true, laidLooks := .later }
def CronTextsCardSaid : Prop := Claim7.holds Tryd.pinned (.plain (OpenSpec.ofChange cronTextsSpec)) cronTextsCard

/-- THE SECOND FORM's CARD OF 'almanaclaw.CronTexts'. -/
def cronTextsUptoCard : Claim7 := { stood := { row := cronTextsUptoRow, standIns := [], harness := (true, "cd8044d705df70837ecf4d4b696f476bd99d23124b9ca81e23eaaf9200fb1fb5"), looks := true }, kinds := [], alts := [], laidByText := true, laidKinds := [.data, .data, .data, .handle], laidTests := true, laidLooks := .later }
def CronTextsUptoCardSaid : Prop := Claim7.holds Tryd.pinned (.plain (OpenSpec.upto cronTextsSpec)) cronTextsUptoCard
end Rows
end Go.Proofs.YtdnbnpknmdcljaaDoor
