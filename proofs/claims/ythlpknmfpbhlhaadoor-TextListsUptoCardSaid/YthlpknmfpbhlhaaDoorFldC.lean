/- text.Fold. -/
import Derived.Test.YthlpknmfpbhlhaaDoorFldB
import Derived.Test.YthlpknmfpbhlhaaDoorMore
namespace Go.Proofs.YthlpknmfpbhlhaaDoor
open Go.RowKit Go.Shelf Fld
theorem ext_to (s : ByteArray) (n : Nat) : (s.extract 0 n).data.toList = s.data.toList.take n := by
  simp
theorem ext_from (s : ByteArray) (n : Nat) : (s.extract n s.size).data.toList = s.data.toList.drop n := by
  rw [Lib.extract_data, List.take_of_length_le (by rw [List.length_drop, len_eq]; omega)]
theorem str_eq {s : ByteArray} {l : List UInt8} (h : s.data.toList = l) : s = ⟨l.toArray⟩ := by subst h; rfl
theorem not_empty {r : ByteArray} (h : r.data.toList ≠ []) : r.toList.isEmpty = false := by rw [ByteArray.toList_eq]; simpa using h
theorem crlf_list : (⟨#[13, 10]⟩ : ByteArray).data.toList = [13, 10] := rfl
end Go.Proofs.YthlpknmfpbhlhaaDoor
