/- The law SpanKeeps. -/
import Derived.Test.YtpmppgmnnnlonaaDoorKeepB
namespace Go.Proofs.YtpmppgmnnnlonaaDoor
open Go.RowKit
theorem netE_clo {n : Nat} {X : Nat → Nat → Nat} (h1 : 1 ≤ n) (h2 : n ≤ 6) (h : SmallX n X) : netE n (fun _ => n) (fun i k => (X i k : Int)) = 0 := by
  rw [netE_in h1 h2]
  exact firstE_zero fun i hi => rowE_ok rfl fun k hk => by
    have := h i k hi hk
    exact ⟨by omega, by omega⟩
theorem holdB_parts {n : Nat} {L : Nat → Nat} {z : Nat → Nat → Int} {m : Nat} {x y : Nat → Int} (h : holdB n L z m x y = true) : netE n L z = 0 ∧ m = n ∧ (∀ i, i < m → x i < y i) ∧ ∀ i k, i < n → k < n → (z i k).toNat.testBit (Sp.way (x i) (y i) (x k) (y k)) = true := by
  unfold holdB at h
  have h := @of_decide_eq_true _ (Classical.propDecidable _) h
  obtain ⟨h1, h2⟩ := h
  by_cases a : netE n L z = 0
  · by_cases b : m = n
    · by_cases c : ∀ i, i < m → x i < y i
      · exact ⟨a, b, c, h2⟩
      · have : ∃ i, i < m ∧ ¬ x i < y i := by
          apply Classical.byContradiction
          intro g
          exact c fun i hi => Classical.byContradiction fun e => g ⟨i, hi, e⟩
        obtain ⟨i, hi, e⟩ := this
        rw [holdE_empty a b hi e] at h1
        cases h1
    · rw [holdE_len a b] at h1; cases h1
  · rw [holdE_net a] at h1; exact absurd h1 a
/-- A net that holds of spans: its closure does too. -/
theorem clo_holds {n : Nat} {L : Nat → Nat} {z : Nat → Nat → Int} {m : Nat} {x y : Nat → Int} {X : Nat → Nat → Nat} (h : holdB n L z m x y = true) (hX : TopP n (fun i k => (z i k).toNat) X) : holdE n (fun _ => n) (fun i k => (X i k : Int)) m x y = 0 ∧ holdB n (fun _ => n) (fun i k => (X i k : Int)) m x y = true ∧ (∀ i k, i < n → k < n → X i k ≠ 0) := by
  obtain ⟨a, rfl, c, d⟩ := holdB_parts h
  obtain ⟨n1, n6, _⟩ := net_ok a
  have hE := holdE_ok (L := fun _ => m) (netE_clo n1 n6 hX.1.1) rfl c
  have hk := close_keeps c d hX
  exact ⟨hE, holdB_yes hE fun i k hi hk2 => by simpa using hk i k hi hk2, fun i k hi hk2 => bit_pos (hk i k hi hk2)⟩
end Go.Proofs.YtpmppgmnnnlonaaDoor
