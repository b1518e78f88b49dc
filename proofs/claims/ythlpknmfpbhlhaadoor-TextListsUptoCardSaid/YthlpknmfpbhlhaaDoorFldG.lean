/- The document's Cuts. -/
import Derived.Test.YthlpknmfpbhlhaaDoorFldF
namespace Go.Proofs.YthlpknmfpbhlhaaDoor
open Go.RowKit Go.Shelf Fld
theorem seg_cut (l : List UInt8) (f i : Nat) (hf : f ≤ i) (hi : i < l.length) : l.drop f = (l.drop f).take (i - f) ++ l[i] :: l.drop (i + 1) := by
  have e := List.take_append_drop (i - f) (l.drop f)
  rw [List.drop_drop, show f + (i - f) = i by omega, List.drop_eq_getElem_cons hi] at e
  exact e.symm
theorem seg_next (l : List UInt8) (f i : Nat) (hf : f ≤ i) (hi : i < l.length) : (l.drop f).take (i + 1 - f) = (l.drop f).take (i - f) ++ [l[i]] := by
  rw [show i + 1 - f = (i - f) + 1 by omega, List.take_succ_eq_append_getElem (by rw [List.length_drop]; omega)]
  simp [show f + (i - f) = i by omega]
theorem ext_mid (s : ByteArray) (f i : Nat) : (s.extract f i).data.toList = (s.data.toList.drop f).take (i - f) := Lib.extract_data s f i
theorem get_list (s : ByteArray) (i : Nat) (h : i < s.size) : s.data.toList[i]'(by rw [len_eq]; exact h) = s[i] := rfl
end Go.Proofs.YthlpknmfpbhlhaaDoor
