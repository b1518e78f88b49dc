/- What the list of variables gives of the powers of ten. -/
import Derived.Test.YtkfpnlenmdlmjaaDoorFrame
import Derived.Test.YtkfpnlenmdlmjaaDoorTabs
import Derived.Test.YtkfpnlenmdlmjaaDoorPerA
namespace Go.Proofs.YtkfpnlenmdlmjaaDoor
open Go.RowKit
theorem Tryd.gPowType : (Tryd.prog.globals[1]?).map (·.type) = some 116 := by kernel_rfl
theorem Tryd.cellsPow : Tryd.prog.cellsOf 116 = 20 := by kernel_rfl
theorem Tryd.cellsU64 : Tryd.prog.cellsOf 110 = 1 := by kernel_rfl
theorem powData : (Rows.laid_internal_strconv_uint64pow10 : DataW Unit) = Lib.tabData .u64 Lib.pow10Tab := by kernel_rfl
theorem pow_laid {l : List (String × DataW Unit)} {W : World} (hl : (l.filter fun x => x.2.handleName?.isNone) = [("math/bits.deBruijn32tab", Rows.laid_math_bits_deBruijn32tab), ("math/bits.deBruijn64tab", Rows.laid_math_bits_deBruijn64tab), ("internal/strconv.uint64pow10", Rows.laid_internal_strconv_uint64pow10)]) (h : laidMetH Tryd.prog l W) : Pow W := by
  have h1 := (laidMetH_iff.1 h).1
  rw [hl] at h1
  obtain ⟨q0, h1, _⟩ := h1
  obtain ⟨q1, h2⟩ := vars_tail h1
  obtain ⟨q2, h3⟩ := vars_tail h2
  rw [powData] at h3
  exact tab_of_vars Tryd.gPow Tryd.gPowType Tryd.underlying116 Tryd.underlying110 Tryd.cellsU64 Tryd.cellsPow h3
end Go.Proofs.YtkfpnlenmdlmjaaDoor
