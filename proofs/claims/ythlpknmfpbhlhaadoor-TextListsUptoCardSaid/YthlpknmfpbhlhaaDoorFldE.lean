/- The document's Fold. -/
import Derived.Test.YthlpknmfpbhlhaaDoorFldC
namespace Go.Proofs.YthlpknmfpbhlhaaDoor
open Go.RowKit Go.Shelf Fld
def contF (d : Nat) (l : List UInt8) : List UInt8 := (if d = 1 then [32] else []) ++ (l.take (cutN l (75 - d)) ++ ([13, 10] ++ foldT (l.drop (cutN l (75 - d)))))
theorem contF_zero (l : List UInt8) : contF 0 l = foldL l := by simp [contF, foldL]
theorem contF_one (l : List UInt8) (h : l ≠ []) : foldT l = contF 1 l := by rw [foldT_cons l h]; simp [contF]
theorem empty_list : (⟨#[]⟩ : ByteArray).data.toList = [] := rfl
theorem sp_list : (⟨#[32]⟩ : ByteArray).data.toList = [32] := rfl
end Go.Proofs.YthlpknmfpbhlhaaDoor
