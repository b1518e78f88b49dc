/- Whole numbers: division that rounds down, by division that cuts. Plain. -/
import Derived.WalkKit
namespace Go.Proofs.YtbmndenopgkpoaaDoor
open Go.RowKit
/-- Fits 64 bits. -/
def InI (a : Int) : Prop := -9223372036854775808 ≤ a ∧ a ≤ 9223372036854775807
theorem InI.mk {a : Int} (h1 : -9000000000000000000 ≤ a) (h2 : a ≤ 9000000000000000000) : InI a := ⟨by omega, by omega⟩
theorem wrap_in {a : Int} (h : InI a) : wrap64 a = a := IntWalk.wrap64_in a ⟨h.1, h.2⟩
theorem tdiv_fact (a b : Int) : b * a.tdiv b + a.tmod b = a := Int.mul_tdiv_add_tmod a b
theorem tmod_fact (a b : Int) (hb : 0 < b) : -b < a.tmod b ∧ a.tmod b < b := by
  have h1 := Int.natAbs_tmod a b
  have h2 := Nat.mod_lt a.natAbs (show 0 < b.natAbs by omega)
  omega
theorem tdiv_neg (a b : Int) (hb : 0 < b) (h : a.tmod b < 0) : a.tdiv b - 1 = a / b := by
  have h1 := tdiv_fact a b
  have h2 := tmod_fact a b hb
  have h3 : b * (a.tdiv b - 1) + (a.tmod b + b) = a := by rw [Int.mul_sub]; omega
  have := (Int.ediv_emod_unique hb (a := a) (r := a.tmod b + b) (q := a.tdiv b - 1)).2 ⟨by rw [Int.add_comm]; exact h3, by omega, by omega⟩
  exact this.1.symm
theorem tdiv_pos (a b : Int) (hb : 0 < b) (h : 0 ≤ a.tmod b) : a.tdiv b = a / b := by
  have h1 := tdiv_fact a b
  have h2 := tmod_fact a b hb
  have := (Int.ediv_emod_unique hb (a := a) (r := a.tmod b) (q := a.tdiv b)).2 ⟨by rw [Int.add_comm]; exact h1, by omega, by omega⟩
  exact this.1.symm
theorem tmod_neg (a b : Int) (hb : 0 < b) (h : a.tmod b < 0) : a.tmod b + b = a % b := by
  have h1 := tdiv_fact a b
  have h2 := tmod_fact a b hb
  have h3 : b * (a.tdiv b - 1) + (a.tmod b + b) = a := by rw [Int.mul_sub]; omega
  have := (Int.ediv_emod_unique hb (a := a) (r := a.tmod b + b) (q := a.tdiv b - 1)).2 ⟨by rw [Int.add_comm]; exact h3, by omega, by omega⟩
  exact this.2.symm
theorem tmod_pos (a b : Int) (hb : 0 < b) (h : 0 ≤ a.tmod b) : a.tmod b = a % b := by
  have h1 := tdiv_fact a b
  have h2 := tmod_fact a b hb
  have := (Int.ediv_emod_unique hb (a := a) (r := a.tmod b) (q := a.tdiv b)).2 ⟨by rw [Int.add_comm]; exact h1, by omega, by omega⟩
  exact this.2.symm
/-- A quotient by 2 or more is small. -/
theorem ediv_in {a b : Int} (ha : InI a) (hb : 2 ≤ b) : -4611686018427387904 ≤ a / b ∧ a / b ≤ 4611686018427387904 := by
  have h1 := Int.mul_ediv_add_emod a b
  have h2 := Int.emod_nonneg a (show b ≠ 0 by omega)
  have h3 := Int.emod_lt_of_pos a (show 0 < b by omega)
  unfold InI at ha
  constructor
  · rcases Int.lt_or_le (a / b) (-4611686018427387904) with h | h
    · exfalso
      have : b * (a / b) ≤ b * (-4611686018427387905) := Int.mul_le_mul_of_nonneg_left (by omega) (by omega)
      omega
    · exact h
  · rcases Int.lt_or_le 4611686018427387904 (a / b) with h | h
    · exfalso
      have : b * 4611686018427387905 ≤ b * (a / b) := Int.mul_le_mul_of_nonneg_left (by omega) (by omega)
      omega
    · exact h
theorem tdiv_in {a b : Int} (ha : InI a) (hb : 2 ≤ b) : wrap64 (a.tdiv b) = a.tdiv b := by
  have hd := ediv_in ha hb
  apply wrap_in
  unfold InI
  rcases Int.lt_or_le (a.tmod b) 0 with h | h
  · have := tdiv_neg a b (by omega) h; omega
  · have := tdiv_pos a b (by omega) h; omega
theorem floor_neg {a b : Int} (ha : InI a) (hb : 2 ≤ b) (h : a.tmod b < 0) : wrap64 (wrap64 (a.tdiv b) - 1) = a / b := by
  rw [tdiv_in ha hb, tdiv_neg a b (by omega) h]
  have hd := ediv_in ha hb
  exact wrap_in ⟨by omega, by omega⟩
theorem floor_pos {a b : Int} (ha : InI a) (hb : 2 ≤ b) (h : 0 ≤ a.tmod b) : wrap64 (a.tdiv b) = a / b := by
  rw [tdiv_in ha hb, tdiv_pos a b (by omega) h]
/-- What wraps twice comes out, where it fits. -/
theorem wrap_sub_wrap (a x : Int) (h : InI (a - x)) : wrap64 (a - wrap64 x) = a - x := by
  have e : wrap64 (a - wrap64 x) = wrap64 (a - x) := by
    unfold wrap64
    omega
  rw [e, wrap_in h]
theorem mod_in {a b : Int} (hb : 2 ≤ b) (hb2 : b ≤ 1000000000) : wrap64 (a - wrap64 (b * (a / b))) = a % b := by
  have h1 := Int.mul_ediv_add_emod a b
  have h2 := Int.emod_nonneg a (show b ≠ 0 by omega)
  have h3 := Int.emod_lt_of_pos a (show 0 < b by omega)
  rw [wrap_sub_wrap _ _ ⟨by omega, by omega⟩]
  omega
end Go.Proofs.YtbmndenopgkpoaaDoor
