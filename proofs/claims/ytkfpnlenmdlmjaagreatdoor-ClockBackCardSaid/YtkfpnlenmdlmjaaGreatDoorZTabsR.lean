/- What the list of variables gives of the powers of ten and of the months' table. -/
import Derived.Test.YtkfpnlenmdlmjaaGreatDoorZG2
import Derived.Test.YtkfpnlenmdlmjaaGreatDoorZTabs
import Derived.Test.YtkfpnlenmdlmjaaGreatDoorZTxtA
namespace Go.Proofs.YtkfpnlenmdlmjaaGreatDoor
open Go.RowKit
theorem Tryz.gPowType : (Tryz.prog.globals[3]?).map (·.type) = some 226 := by kernel_rfl
theorem Tryz.cellsPow : Tryz.prog.cellsOf 226 = 20 := by kernel_rfl
theorem Tryz.cellsU64 : Tryz.prog.cellsOf 215 = 1 := by kernel_rfl
theorem powData : (Rows.laid_internal_strconv_uint64pow10 : DataW Unit) = Lib.tabData .u64 Lib.pow10Tab := by kernel_rfl
theorem romanData : (Rows.laid_almanac_days_roman : DataW Unit) = Lib.tabData .i64 [31, 28, 31, 30, 31, 30, 31, 31, 30, 31, 30, 31] := by kernel_rfl
theorem tabs_laid {l : List (String × DataW Unit)} {W : World} (hl : (l.filter fun x => x.2.handleName?.isNone) = [("math/bits.deBruijn32tab", Rows.laid_math_bits_deBruijn32tab), ("math/bits.deBruijn64tab", Rows.laid_math_bits_deBruijn64tab), ("internal/strconv.uint64pow10", Rows.laid_internal_strconv_uint64pow10), ("almanac/days.roman", Rows.laid_almanac_days_roman)]) (h : laidMetH Tryz.prog l W) : RomanT W ∧ Pow W := by
  have h1 := (laidMetH_iff.1 h).1
  rw [hl] at h1
  obtain ⟨q0, h1, _⟩ := h1
  obtain ⟨q1, h2⟩ := vars_tail h1
  obtain ⟨q2, h3⟩ := vars_tail h2
  obtain ⟨q3, h4⟩ := vars_tail h3
  rw [powData] at h3
  rw [romanData] at h4
  have ht : Lib.TabIs Tryz.prog W "almanac/days.roman" .i64 [31, 28, 31, 30, 31, 30, 31, 31, 30, 31, 30, 31] :=
    tab_of_vars Tryz.gRoman Tryz.gRomanType Tryz.underlying223 Tryz.underlying3 Tryz.cellsInt Tryz.cellsRoman h4
  exact ⟨fun i hi => ht.cell Tryz.gRoman i hi, tab_of_vars Tryz.gPow Tryz.gPowType Tryz.underlying226 Tryz.underlying215 Tryz.cellsU64 Tryz.cellsPow h3⟩
end Go.Proofs.YtkfpnlenmdlmjaaGreatDoor
