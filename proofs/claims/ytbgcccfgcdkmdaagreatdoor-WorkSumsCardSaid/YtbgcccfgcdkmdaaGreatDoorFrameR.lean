/- What the list of variables gives of the months' table. -/
import Derived.Test.YtbgcccfgcdkmdaaGreatDoorFrame
import Derived.Test.YtbgcccfgcdkmdaaGreatDoorDaysC
namespace Go.Proofs.YtbgcccfgcdkmdaaGreatDoor
open Go.RowKit
theorem Tryz.gRoman : Tryz.prog.globalNamed "almanac/days.roman" = some 1 := by kernel_rfl
theorem Tryz.gRomanType : (Tryz.prog.globals[1]?).map (·.type) = some 185 := by kernel_rfl
theorem Tryz.cellsRoman : Tryz.prog.cellsOf 185 = 12 := by kernel_rfl
theorem Tryz.cellsInt : Tryz.prog.cellsOf 3 = 1 := by kernel_rfl
theorem romanT_laid {l : List (String × DataW Unit)} {W : World} (hl : (l.filter fun x => x.2.handleName?.isNone) = [("almanac/days.roman", Rows.laid_almanac_days_roman)]) (h : laidMetH Tryz.prog l W) : RomanT W := by
  have h1 := (laidMetH_iff.1 h).1
  rw [hl] at h1
  have ht : Lib.TabIs Tryz.prog W "almanac/days.roman" .i64 [31, 28, 31, 30, 31, 30, 31, 31, 30, 31, 30, 31] :=
    Lib.tabIs_of_head (rest := []) Tryz.gRoman Tryz.gRomanType Tryz.underlying185 Tryz.underlying3 Tryz.cellsInt Tryz.cellsRoman h1
  exact fun i hi => ht.cell Tryz.gRoman i hi
end Go.Proofs.YtbgcccfgcdkmdaaGreatDoor
