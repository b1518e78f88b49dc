/- Leap, Months, Length of the document; the law DaysLeaps. -/
import Derived.Test.YtdnbnpknmdcljaaGreatDoorDaysH
namespace Go.Proofs.YtdnbnpknmdcljaaGreatDoor
open Go.RowKit
end Go.Proofs.YtdnbnpknmdcljaaGreatDoor
