/- Sets of ways by what they hold; how many ways a set has. Plain. -/
import Derived.Test.YtpmppgmnnnlonaaDoorSpanBits
import Derived.Test.YtpmppgmnnnlonaaDoorSpanMath
import Derived.Laws.Bits64
namespace Go.Proofs.YtpmppgmnnnlonaaDoor
open Go.RowKit
theorem bits_exist (P : Nat → Prop) : ∃ s, Bits s P := by
  have h : ∀ n, n ≤ 13 → ∃ s, Bits s fun v => v < n ∧ P v := by
    intro n
    induction n with
    | zero => exact fun _ => ⟨0, Bits.none fun v _ h => by omega⟩
    | succ n ih =>
      intro hn
      obtain ⟨s, hs⟩ := ih (by omega)
      by_cases hp : P n
      · refine ⟨s ||| 2 ^ n, (hs.add (by omega)).congr fun v _ => ⟨?_, ?_⟩⟩
        · rintro (⟨h1, h2⟩ | rfl)
          · exact ⟨by omega, h2⟩
          · exact ⟨by omega, hp⟩
        · rintro ⟨h1, h2⟩
          by_cases e : n = v
          · exact .inr e
          · exact .inl ⟨by omega, h2⟩
      · refine ⟨s, hs.congr fun v _ => ⟨fun ⟨h1, h2⟩ => ⟨by omega, h2⟩, fun ⟨h1, h2⟩ => ⟨?_, h2⟩⟩⟩
        by_cases e : n = v
        · subst e; exact absurd h2 hp
        · omega
  obtain ⟨s, hs⟩ := h 13 (Nat.le_refl _)
  exact ⟨s, hs.congr fun v hv => ⟨fun h => h.2, fun h => ⟨hv, h⟩⟩⟩
/-- The set of the ways of which P holds. -/
noncomputable def setOf (P : Nat → Prop) : Nat := Classical.choose (bits_exist P)
theorem setOf_bits (P : Nat → Prop) : Bits (setOf P) P := Classical.choose_spec (bits_exist P)
theorem Bits.one {s t : Nat} {P : Nat → Prop} (h : Bits s P) (g : Bits t P) : s = t := set_ext _ _ h.1 g.1 fun v hv => (h.2 v hv).trans (g.2 v hv).symm
theorem Bits.setOf {s : Nat} {P : Nat → Prop} (h : Bits s P) : s = setOf P := h.one (setOf_bits P)
theorem setOf_lt (P : Nat → Prop) : setOf P < 8192 := (setOf_bits P).1
/-- How b may lie to a. -/
noncomputable def backN (s : Nat) : Nat := setOf fun v => s.testBit (12 - v) = true
/-- How a may lie to c. -/
noncomputable def joinN (p q : Nat) : Nat := setOf fun v => ∃ a b : Nat, a < 13 ∧ b < 13 ∧ p.testBit a = true ∧ q.testBit b = true ∧ (Sp.tab a b).testBit v = true
/-- How many of the first n ways a set has. -/
def cntN : Nat → Nat → Nat
  | 0, _ => 0
  | n + 1, t => cntN n t + if t.testBit n then 1 else 0
def swA (x : Nat) : Nat := ((x / 2) &&& 6148914691236517205) + (x &&& 6148914691236517205)
def swB (x : Nat) : Nat := ((x / 4) &&& 3689348814741910323) + (x &&& 3689348814741910323)
def swC (x : Nat) : Nat := (x / 16 + x) &&& 1085102592571150095
def swD (x : Nat) : Nat := x + x / 256
def swE (x : Nat) : Nat := x + x / 65536
def swF (x : Nat) : Nat := x + x / 4294967296
theorem sw_all : ((List.range 8192).all fun t => Nat.beq (swF (swE (swD (swC (swB (swA t))))) &&& 127) (cntN 13 t) && Nat.ble (swA t) 8192 && Nat.ble (swB (swA t)) 8192 && Nat.ble (swC (swB (swA t))) 100000 && Nat.ble (swD (swC (swB (swA t)))) 100000 && Nat.ble (swE (swD (swC (swB (swA t))))) 100000 && Nat.ble (swF (swE (swD (swC (swB (swA t)))))) 100000) = true := by decide +kernel
theorem sw_at (t : Nat) (h : t < 8192) : swF (swE (swD (swC (swB (swA t))))) &&& 127 = cntN 13 t ∧ swA t ≤ 8192 ∧ swB (swA t) ≤ 8192 ∧ swC (swB (swA t)) ≤ 100000 ∧ swD (swC (swB (swA t))) ≤ 100000 ∧ swE (swD (swC (swB (swA t)))) ≤ 100000 ∧ swF (swE (swD (swC (swB (swA t))))) ≤ 100000 := by
  have := List.all_eq_true.1 sw_all t (List.mem_range.2 h)
  simp only [Bool.and_eq_true, Nat.beq_eq, Nat.ble_eq] at this
  obtain ⟨⟨⟨⟨⟨⟨a, b⟩, c⟩, d⟩, e⟩, f⟩, g⟩ := this
  exact ⟨a, b, c, d, e, f, g⟩
theorem wraps_u64 (n : Int) (h₀ : 0 ≤ n) (h₁ : n < 2 ^ 63) : IntKind.u64.wrap n = n := by rw [IntKind.wrap_u64]; omega
theorem and_u64 (a b : Nat) (ha : a < 2 ^ 63) (hb : b < 2 ^ 63) : bits .and .u64 a b = ((a &&& b : Nat) : Int) := (bits_nat .u64 63 (by decide) wraps_u64 a b ha hb).1
/-- A mask over any whole number. -/
theorem mask_nat (x : Int) (m : Nat) (hm : m < 2 ^ 62) : bits .and .i64 x m = (((x % 18446744073709551616).toNat &&& m : Nat) : Int) := by
  have h1 : (BitVec.ofInt 64 x).toNat = (x % 18446744073709551616).toNat := by rw [BitVec.toNat_ofInt]; rfl
  have h2 : (BitVec.ofInt 64 (m : Int)).toNat = m := by rw [BitVec.ofInt_natCast, BitVec.toNat_ofNat]; exact Nat.mod_eq_of_lt (by omega)
  have h3 : (x % 18446744073709551616).toNat &&& m < 2 ^ 62 := Nat.and_lt_two_pow _ hm
  show IntKind.i64.wrap (((BitVec.ofInt 64 x) &&& (BitVec.ofInt 64 (m : Int))).toNat : Int) = _
  rw [BitVec.toNat_and, h1, h2]
  exact wraps_i64 _ (Int.natCast_nonneg _) (by omega)
theorem mask13 (x : Int) : bits .and .i64 x 8191 = x % 8192 := by
  have h := mask_nat x 8191 (by decide)
  have e : ((8191 : Nat) : Int) = 8191 := rfl
  rw [e] at h
  rw [h, show (8191 : Nat) = 2 ^ 13 - 1 from rfl, Nat.and_two_pow_sub_one_eq_mod]
  omega
theorem mask1 (x : Int) : bits .and .i64 x 1 = x % 2 := by
  have h := mask_nat x 1 (by decide)
  have e : ((1 : Nat) : Int) = 1 := rfl
  rw [e] at h
  rw [h, Nat.and_one_is_mod]
  omega
/-- Asking any whole number for one of the first bits. -/
theorem has_int (s : Int) (k : Nat) (hk : k < 13) : (bits .and .i64 (s / 2 ^ k) 1 == 1) = (s % 8192).toNat.testBit k := by
  rw [mask1, Nat.testBit_eq_decide_div_mod_eq]
  have h : ∀ (a : Int) (b : Nat), (a = 1 ↔ b = 1) → (a == 1) = decide (b = 1) := fun a b h => by rw [Bool.eq_iff_iff]; simp [h]
  apply h
  match k, hk with
  | 0, _ => simp only [Int.pow_zero, Nat.pow_zero, Nat.div_one, Int.ediv_one]; omega
  | 1, _ => simp only [Int.reducePow, Nat.reducePow]; omega
  | 2, _ => simp only [Int.reducePow, Nat.reducePow]; omega
  | 3, _ => simp only [Int.reducePow, Nat.reducePow]; omega
  | 4, _ => simp only [Int.reducePow, Nat.reducePow]; omega
  | 5, _ => simp only [Int.reducePow, Nat.reducePow]; omega
  | 6, _ => simp only [Int.reducePow, Nat.reducePow]; omega
  | 7, _ => simp only [Int.reducePow, Nat.reducePow]; omega
  | 8, _ => simp only [Int.reducePow, Nat.reducePow]; omega
  | 9, _ => simp only [Int.reducePow, Nat.reducePow]; omega
  | 10, _ => simp only [Int.reducePow, Nat.reducePow]; omega
  | 11, _ => simp only [Int.reducePow, Nat.reducePow]; omega
  | 12, _ => simp only [Int.reducePow, Nat.reducePow]; omega
end Go.Proofs.YtpmppgmnnnlonaaDoor
