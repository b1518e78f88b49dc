/- What the list of variables gives of the months' table. -/
import Derived.Test.YtpchkfnfipdilaaDoorFrame
import Derived.Test.YtpchkfnfipdilaaDoorDaysC
namespace Go.Proofs.YtpchkfnfipdilaaDoor
open Go.RowKit
theorem Tryd.gRoman : Tryd.prog.globalNamed "almanac/days.roman" = some 1 := by kernel_rfl
theorem Tryd.gRomanType : (Tryd.prog.globals[1]?).map (·.type) = some 121 := by kernel_rfl
theorem Tryd.cellsRoman : Tryd.prog.cellsOf 121 = 12 := by kernel_rfl
theorem Tryd.cellsInt : Tryd.prog.cellsOf 3 = 1 := by kernel_rfl
theorem romanT_laid {l : List (String × DataW Unit)} {W : World} (hl : (l.filter fun x => x.2.handleName?.isNone) = [("almanac/days.roman", Rows.laid_almanac_days_roman)]) (h : laidMetH Tryd.prog l W) : RomanT W := by
  have h1 := (laidMetH_iff.1 h).1
  rw [hl] at h1
  have ht : Lib.TabIs Tryd.prog W "almanac/days.roman" .i64 [31, 28, 31, 30, 31, 30, 31, 31, 30, 31, 30, 31] :=
    Lib.tabIs_of_head (rest := []) Tryd.gRoman Tryd.gRomanType Tryd.underlying121 Tryd.underlying3 Tryd.cellsInt Tryd.cellsRoman h1
  exact fun i hi => ht.cell Tryd.gRoman i hi
end Go.Proofs.YtpchkfnfipdilaaDoor
