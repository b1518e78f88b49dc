/-
  DERIVED. GIVEN WITH THE SEED: THE PROGRAM's TIES (one call each: nine closed facts by the kernel) AND EACH ROW's TIE, after the 31st guide's Derived/Test/Toyas{Tie, Card}.lean. No idea stands in it: it is a product of the set-up. Laid BY PROGRAM, IN A SANDBOX (cutbox-door.mjs). By AI agents, Wed Nov 11 2026. No macro, syntax, notation, axiom, sorry.
-/
import Derived.Test.YtajnpdaljocnnaaDoorRows
import Derived.LaidByTextLater
import Derived.SevenTiedAt
import Derived.LaidSub
import Derived.LaidOnce
namespace Go.Proofs.YtajnpdaljocnnaaDoor
open Go
set_option maxRecDepth 100000
theorem seatTie1 : Tryd.prog.laidByTextLater [("errors.errorType", Rows.laid_errors_errorType), ("almanac/days.roman", Rows.laid_almanac_days_roman)] [.handle, .data] true :=
  Program.laidByTextLater_by_one 21 8 13 (by kernel_rfl) (by kernel_rfl) (by kernel_rfl) (by kernel_rfl) (by kernel_rfl) (by kernel_rfl) (fun _ _ => by kernel_rfl)
theorem noOwnUnsafe : Tryd.pinned.checked.prog.headLifts.contains "ownunsafe" = false := by kernel_rfl
theorem tie : Tryd.prog.laidByTextLater [("errors.errorType", Rows.laid_errors_errorType)] [.handle] true :=
  Program.laidByTextLater.sub seatTie1 ["errors.errorType"] (by kernel_rfl) (by kernel_rfl)
theorem daysMaya_row_tie : Rows.daysMayaRow.laidByTextAt .later Tryd.pinned [.handle] true :=
  OpenClaim.laidByTextAt_later rfl rfl tie noOwnUnsafe
theorem daysRound_row_tie : Rows.daysRoundRow.laidByTextAt .later Tryd.pinned [.handle] true :=
  OpenClaim.laidByTextAt_later rfl rfl tie noOwnUnsafe
theorem tie2 : Tryd.prog.laidByTextLater [("errors.errorType", Rows.laid_errors_errorType), ("almanac/days.roman", Rows.laid_almanac_days_roman)] [.handle, .data] true :=
  Program.laidByTextLater.sub seatTie1 ["errors.errorType", "almanac/days.roman"] (by kernel_rfl) (by kernel_rfl)
theorem daysOf_row_tie : Rows.daysOfRow.laidByTextAt .later Tryd.pinned [.handle, .data] true :=
  OpenClaim.laidByTextAt_later rfl rfl tie2 noOwnUnsafe
theorem daysDates_row_tie : Rows.daysDatesRow.laidByTextAt .later Tryd.pinned [.handle, .data] true :=
  OpenClaim.laidByTextAt_later rfl rfl tie2 noOwnUnsafe
theorem daysLeaps_row_tie : Rows.daysLeapsRow.laidByTextAt .later Tryd.pinned [.handle, .data] true :=
  OpenClaim.laidByTextAt_later rfl rfl tie2 noOwnUnsafe
theorem daysEasters_row_tie : Rows.daysEastersRow.laidByTextAt .later Tryd.pinned [.handle, .data] true :=
  OpenClaim.laidByTextAt_later rfl rfl tie2 noOwnUnsafe
theorem daysKeep_row_tie : Rows.daysKeepRow.laidByTextAt .later Tryd.pinned [.handle, .data] true :=
  OpenClaim.laidByTextAt_later rfl rfl tie2 noOwnUnsafe
theorem daysWeeks_row_tie : Rows.daysWeeksRow.laidByTextAt .later Tryd.pinned [.handle, .data] true :=
  OpenClaim.laidByTextAt_later rfl rfl tie2 noOwnUnsafe
theorem daysWeek_row_tie : Rows.daysWeekRow.laidByTextAt .later Tryd.pinned [.handle, .data] true :=
  OpenClaim.laidByTextAt_later rfl rfl tie2 noOwnUnsafe
theorem daysMeet_row_tie : Rows.daysMeetRow.laidByTextAt .later Tryd.pinned [.handle, .data] true :=
  OpenClaim.laidByTextAt_later rfl rfl tie2 noOwnUnsafe
theorem daysEaster_row_tie : Rows.daysEasterRow.laidByTextAt .later Tryd.pinned [.handle, .data] true :=
  OpenClaim.laidByTextAt_later rfl rfl tie2 noOwnUnsafe
theorem daysMayaUpto_row_tie : Rows.daysMayaUptoRow.laidByTextAt .later Tryd.pinned [.handle] true :=
  OpenClaim.laidByTextAt_later rfl rfl tie noOwnUnsafe
theorem daysRoundUpto_row_tie : Rows.daysRoundUptoRow.laidByTextAt .later Tryd.pinned [.handle] true :=
  OpenClaim.laidByTextAt_later rfl rfl tie noOwnUnsafe
theorem daysOfUpto_row_tie : Rows.daysOfUptoRow.laidByTextAt .later Tryd.pinned [.handle, .data] true :=
  OpenClaim.laidByTextAt_later rfl rfl tie2 noOwnUnsafe
theorem daysDatesUpto_row_tie : Rows.daysDatesUptoRow.laidByTextAt .later Tryd.pinned [.handle, .data] true :=
  OpenClaim.laidByTextAt_later rfl rfl tie2 noOwnUnsafe
theorem daysLeapsUpto_row_tie : Rows.daysLeapsUptoRow.laidByTextAt .later Tryd.pinned [.handle, .data] true :=
  OpenClaim.laidByTextAt_later rfl rfl tie2 noOwnUnsafe
theorem daysEastersUpto_row_tie : Rows.daysEastersUptoRow.laidByTextAt .later Tryd.pinned [.handle, .data] true :=
  OpenClaim.laidByTextAt_later rfl rfl tie2 noOwnUnsafe
theorem daysKeepUpto_row_tie : Rows.daysKeepUptoRow.laidByTextAt .later Tryd.pinned [.handle, .data] true :=
  OpenClaim.laidByTextAt_later rfl rfl tie2 noOwnUnsafe
theorem daysWeeksUpto_row_tie : Rows.daysWeeksUptoRow.laidByTextAt .later Tryd.pinned [.handle, .data] true :=
  OpenClaim.laidByTextAt_later rfl rfl tie2 noOwnUnsafe
theorem daysWeekUpto_row_tie : Rows.daysWeekUptoRow.laidByTextAt .later Tryd.pinned [.handle, .data] true :=
  OpenClaim.laidByTextAt_later rfl rfl tie2 noOwnUnsafe
theorem daysMeetUpto_row_tie : Rows.daysMeetUptoRow.laidByTextAt .later Tryd.pinned [.handle, .data] true :=
  OpenClaim.laidByTextAt_later rfl rfl tie2 noOwnUnsafe
theorem daysEasterUpto_row_tie : Rows.daysEasterUptoRow.laidByTextAt .later Tryd.pinned [.handle, .data] true :=
  OpenClaim.laidByTextAt_later rfl rfl tie2 noOwnUnsafe
end Go.Proofs.YtajnpdaljocnnaaDoor
