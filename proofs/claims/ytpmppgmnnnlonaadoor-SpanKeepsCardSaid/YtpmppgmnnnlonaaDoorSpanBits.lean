/- Plain laws of sets of ways, a bit each. -/
import Derived.Test.YtpmppgmnnnlonaaDoorSpanMath
import Derived.Laws.BitsLemmas
namespace Go.Proofs.YtpmppgmnnnlonaaDoor
open Go.RowKit
theorem wraps_i64 (n : Int) (h₀ : 0 ≤ n) (h₁ : n < 2 ^ 62) : IntKind.i64.wrap n = n := by rw [IntKind.wrap_i64]; omega
/-- A bit of a set. -/
theorem set_has (s w : Nat) (hs : s < 8192) : bits .and .i64 ((s : Int) / 2 ^ w) 1 = if s.testBit w = true then 1 else 0 := by
  have e : ((s : Int) / 2 ^ w) = ((s / 2 ^ w : Nat) : Int) := by push_cast; rfl
  have hd : s / 2 ^ w ≤ s := Nat.div_le_self _ _
  have h := (bits_nat .i64 62 (by decide) wraps_i64 (s / 2 ^ w) 1 (by omega) (by decide)).1
  rw [e]
  have h' : bits .and .i64 ((s / 2 ^ w : Nat) : Int) 1 = ((s / 2 ^ w &&& 1 : Nat) : Int) := h
  rw [h', Nat.and_one_is_mod, Nat.testBit_eq_decide_div_mod_eq]
  have : s / 2 ^ w % 2 = 0 ∨ s / 2 ^ w % 2 = 1 := by omega
  rcases this with h | h <;> simp [h]
/-- A way added to a set. -/
theorem set_add (s w : Nat) (hs : s < 8192) (hw : w < 13) : bits .or .i64 (s : Int) (2 ^ w) = ((s ||| 2 ^ w : Nat) : Int) ∧ s ||| 2 ^ w < 8192 := by
  have hp : 2 ^ w < 2 ^ 13 := Nat.pow_lt_pow_right (by decide) hw
  have h := (bits_nat .i64 62 (by decide) wraps_i64 s (2 ^ w) (by omega) (by omega)).2
  refine ⟨?_, Nat.or_lt_two_pow (n := 13) hs hp⟩
  rw [← h]; push_cast; rfl
/-- Sets joined. -/
theorem set_or (s t : Nat) (hs : s < 8192) (ht : t < 8192) : bits .or .i64 (s : Int) (t : Int) = ((s ||| t : Nat) : Int) ∧ s ||| t < 8192 :=
  ⟨(bits_nat .i64 62 (by decide) wraps_i64 s t (by omega) (by omega)).2, Nat.or_lt_two_pow (n := 13) hs ht⟩
theorem set_and (s t : Nat) (hs : s < 8192) (ht : t < 8192) : bits .and .i64 (s : Int) (t : Int) = ((s &&& t : Nat) : Int) ∧ s &&& t < 8192 :=
  ⟨(bits_nat .i64 62 (by decide) wraps_i64 s t (by omega) (by omega)).1, Nat.and_lt_two_pow (n := 13) _ ht⟩
theorem bit_add (s w v : Nat) : (s ||| 2 ^ w).testBit v = true ↔ s.testBit v = true ∨ w = v := by
  rw [Nat.testBit_or, Nat.testBit_two_pow]; simp
/-- Sets with the same ways are one. -/
theorem set_ext (s t : Nat) (hs : s < 8192) (ht : t < 8192) (h : ∀ v, v < 13 → (s.testBit v = true ↔ t.testBit v = true)) : s = t := by
  apply Nat.eq_of_testBit_eq
  intro v
  by_cases hv : v < 13
  · have := h v hv
    cases h1 : s.testBit v <;> cases h2 : t.testBit v <;> simp_all
  · have hp : 2 ^ 13 ≤ 2 ^ v := Nat.pow_le_pow_right (by decide) (by omega)
    rw [Nat.testBit_lt_two_pow (Nat.lt_of_lt_of_le (show s < 2 ^ 13 from hs) hp), Nat.testBit_lt_two_pow (Nat.lt_of_lt_of_le (show t < 2 ^ 13 from ht) hp)]
/-- A set that holds what compositions there are is the table's. -/
theorem tab_of (p q s : Nat) (hs : s < 8192) (h1 : ∀ v, v < 13 → s.testBit v = true → (Sp.tab p q).testBit v = true) (h2 : ∀ v, v < 13 → (Sp.tab p q).testBit v = true → s.testBit v = true) (ht : Sp.tab p q < 8192) : s = Sp.tab p q :=
  set_ext _ _ hs ht fun v hv => ⟨h1 v hv, h2 v hv⟩
theorem tab_lt (p q : Nat) (hp : p < 13) (hq : q < 13) : Sp.tab p q < 8192 := by
  have h : ((List.range 13).all fun p => (List.range 13).all fun q => Nat.blt (Sp.tab p q) 8192) = true := by decide +kernel
  rw [List.all_eq_true] at h
  have h2 := h p (List.mem_range.2 hp)
  rw [List.all_eq_true] at h2
  simpa using h2 q (List.mem_range.2 hq)
/-- A set whose ways are those of P. -/
def Bits (s : Nat) (P : Nat → Prop) : Prop := s < 8192 ∧ ∀ v, v < 13 → (s.testBit v = true ↔ P v)
theorem Bits.none {P : Nat → Prop} (h : ∀ v, v < 13 → ¬ P v) : Bits 0 P := ⟨by decide, fun v hv => by simpa using h v hv⟩
theorem Bits.congr {s : Nat} {P Q : Nat → Prop} (h : Bits s P) (e : ∀ v, v < 13 → (P v ↔ Q v)) : Bits s Q := ⟨h.1, fun v hv => (h.2 v hv).trans (e v hv)⟩
theorem Bits.add {s w : Nat} {P : Nat → Prop} (h : Bits s P) (hw : w < 13) : Bits (s ||| 2 ^ w) (fun v => P v ∨ w = v) :=
  ⟨(set_add s w h.1 hw).2, fun v hv => (bit_add s w v).trans (by rw [h.2 v hv])⟩
theorem Bits.or {s t : Nat} {P Q : Nat → Prop} (h : Bits s P) (g : Bits t Q) : Bits (s ||| t) (fun v => P v ∨ Q v) :=
  ⟨(set_or s t h.1 g.1).2, fun v hv => by rw [Nat.testBit_or, Bool.or_eq_true, h.2 v hv, g.2 v hv]⟩
theorem Bits.tab {s p q : Nat} {P : Nat → Prop} (h : Bits s P) (hp : p < 13) (hq : q < 13) (h1 : ∀ v, v < 13 → P v → (Sp.tab p q).testBit v = true) (h2 : ∀ v, v < 13 → (Sp.tab p q).testBit v = true → P v) : s = Sp.tab p q :=
  set_ext _ _ h.1 (tab_lt p q hp hq) fun v hv => (h.2 v hv).trans ⟨h1 v hv, h2 v hv⟩
end Go.Proofs.YtpmppgmnnnlonaaDoor
