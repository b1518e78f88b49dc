/- Weeks: the document's numbers of weeks and days of a week. -/
import Derived.Test.YtbgcccfgcdkmdaaGreatDoorDaysR
namespace Go.Proofs.YtbgcccfgcdkmdaaGreatDoor
open Go.RowKit
theorem there_w (n : Int) (w : World) : Calls Tryz.prog 89 #[.int .i64 n] w fun e w' => e = .returned (.tuple #[.int .i64 (rangeR n), .int .i64 (rangeE n)]) ∧ w = w' := there_any n w
end Go.Proofs.YtbgcccfgcdkmdaaGreatDoor
