/- plain.CronCheck. -/
import Derived.Test.YtdnbnpknmdcljaaGreatDoorCrnD
namespace Go.Proofs.YtdnbnpknmdcljaaGreatDoor
open Go.RowKit
end Go.Proofs.YtdnbnpknmdcljaaGreatDoor
