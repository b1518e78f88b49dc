/- A net of the call's own, as blocks: reading, storing. -/
import Derived.Test.YtpmppgmnnnlonaaDoorSpanS
namespace Go.Proofs.YtpmppgmnnnlonaaDoor
open Go.RowKit
/-- The first m rows of a net of n columns lie in blocks of their own, from block b on. -/
def MatR (w : World) (b O m n : Nat) (R cp : Nat → Nat) (X : Nat → Nat → Nat) : Prop :=
  (b ≤ O ∧ O < w.heap.size) ∧ (∀ i, i < m → w.cell? ⟨O, i, none⟩ = some (.slice (some ⟨R i, 0, none⟩) n (cp i)) ∧ b ≤ R i ∧ R i < w.heap.size ∧ R i ≠ O ∧ ∀ k, k < n → w.cell? ⟨R i, k, none⟩ = some (.int .i64 (X i k : Int)) ∧ w.frozen? ⟨R i, k, none⟩ = false) ∧ ∀ i j, i < m → j < m → R i = R j → i = j
section
variable {w w' : World} {b O m n : Nat} {R cp : Nat → Nat} {X : Nat → Nat → Nat}
theorem MatR.keep (h : MatR w b O m n R cp X) (hs : w.heap.size ≤ w'.heap.size) (hc : ∀ B o, B < w.heap.size → w'.cell? ⟨B, o, none⟩ = w.cell? ⟨B, o, none⟩) (hf : ∀ B o, B < w.heap.size → w'.frozen? ⟨B, o, none⟩ = w.frozen? ⟨B, o, none⟩) : MatR w' b O m n R cp X := by
  obtain ⟨⟨h1, h2⟩, h3, h4⟩ := h
  refine ⟨⟨h1, by omega⟩, fun i hi => ?_, h4⟩
  obtain ⟨g1, g2, g3, g4, g5⟩ := h3 i hi
  refine ⟨(hc O i h2).trans g1, g2, by omega, g4, fun k hk => ?_⟩
  obtain ⟨e1, e2⟩ := g5 k hk
  exact ⟨(hc (R i) k g3).trans e1, (hf (R i) k g3).trans e2⟩
theorem MatR.call (h : MatR w b O m n R cp X) (hb : Below w.heap.size w w') : MatR w' b O m n R cp X :=
  h.keep hb.size (fun B o hB => hb.cell (p := ⟨B, o, none⟩) hB) (fun B o hB => hb.frozen (p := ⟨B, o, none⟩) hB)
theorem MatR.alloc (h : MatR w b O m n R cp X) (o : Obj) : MatR (w.alloc o) b O m n R cp X := h.call (Below.alloc (Below.refl _ _) (Nat.le_refl _) _)
theorem MatR.drewN (h : MatR w b O m n R cp X) (k : Nat) : MatR (w.drewN k) b O m n R cp X := h
theorem MatR.congr {Y : Nat → Nat → Nat} (h : MatR w b O m n R cp X) (e : ∀ i k, i < m → k < n → X i k = Y i k) : MatR w b O m n R cp Y := by
  obtain ⟨h1, h3, h4⟩ := h
  refine ⟨h1, fun i hi => ?_, h4⟩
  obtain ⟨g1, g2, g3, g4, g5⟩ := h3 i hi
  exact ⟨g1, g2, g3, g4, fun k hk => by rw [← e i k hi hk]; exact g5 k hk⟩
theorem MatR.set (h : MatR w b O m n R cp X) {i j : Nat} (hi : i < m) (hj : j < n) (v : Nat) : MatR (w.setCell ⟨R i, j, none⟩ (.int .i64 (v : Int))) b O m n R cp (setX X i j v) := by
  obtain ⟨⟨h1, h2⟩, h3, h4⟩ := h
  have hz : (w.setCell ⟨R i, j, none⟩ (.int .i64 (v : Int))).heap.size = w.heap.size := by simp [World.setCell]
  refine ⟨⟨h1, by rw [hz]; exact h2⟩, fun a ha => ?_, h4⟩
  obtain ⟨g1, g2, g3, g4, g5⟩ := h3 a ha
  have gi := (h3 i hi).2.2.2.1
  refine ⟨by rw [World.cell?_setCell_other _ _ _ _ (by intro e; exact gi (congrArg Addr.block e))]; exact g1, g2, by rw [hz]; exact g3, g4, fun k hk => ⟨?_, by rw [World.frozen?_setCell]; exact (g5 k hk).2⟩⟩
  by_cases e : a = i ∧ k = j
  · obtain ⟨rfl, rfl⟩ := e
    rw [World.cell?_setCell_same _ _ _ (g5 k hk).1, setX_at]
  · rw [World.cell?_setCell_other _ _ _ _ (by
      intro hh
      have e1 := congrArg Addr.block hh
      have e2 := congrArg Addr.off hh
      have e3 := h4 i a hi ha e1
      exact e ⟨e3.symm, e2.symm⟩), setX_off e]
    exact (g5 k hk).1
theorem MatR.zero {w : World} {b O n : Nat} {R cp : Nat → Nat} {X : Nat → Nat → Nat} (h1 : b ≤ O) (h2 : O < w.heap.size) : MatR w b O 0 n R cp X := ⟨⟨h1, h2⟩, fun i hi => absurd hi (Nat.not_lt_zero i), fun i _ hi => absurd hi (Nat.not_lt_zero i)⟩
/-- One row more, its header stored. -/
theorem MatR.grow (h : MatR w b O m n R cp X) {B c : Nat} (hB : b ≤ B) (hB2 : B < w.heap.size) (hBO : B ≠ O) (hne : ∀ i, i < m → R i ≠ B) (hO : (w.cell? ⟨O, m, none⟩).isSome = true) (hrow : ∀ k, k < n → w.cell? ⟨B, k, none⟩ = some (.int .i64 (X m k : Int)) ∧ w.frozen? ⟨B, k, none⟩ = false) :
    MatR (w.setCell ⟨O, m, none⟩ (.slice (some ⟨B, 0, none⟩) n c)) b O (m + 1) n (fun i => if i = m then B else R i) (fun i => if i = m then c else cp i) X := by
  obtain ⟨⟨h1, h2⟩, h3, h4⟩ := h
  have hz : (w.setCell ⟨O, m, none⟩ (.slice (some ⟨B, 0, none⟩) n c)).heap.size = w.heap.size := by simp [World.setCell]
  obtain ⟨u, hu⟩ := Option.isSome_iff_exists.1 hO
  have far : ∀ B' k, B' ≠ O → (w.setCell ⟨O, m, none⟩ (.slice (some ⟨B, 0, none⟩) n c)).cell? ⟨B', k, none⟩ = w.cell? ⟨B', k, none⟩ := fun B' k hne' => World.cell?_setCell_other _ _ _ _ (by intro e; exact hne' (congrArg Addr.block e).symm)
  refine ⟨⟨h1, by rw [hz]; exact h2⟩, fun i hi => ?_, fun i j hi hj e => ?_⟩
  · by_cases e : i = m
    · subst e
      simp only [if_true]
      refine ⟨World.cell?_setCell_same _ _ _ hu, hB, by rw [hz]; exact hB2, hBO, fun k hk => ⟨by rw [far B k hBO]; exact (hrow k hk).1, by rw [World.frozen?_setCell]; exact (hrow k hk).2⟩⟩
    · simp only [e, if_false]
      obtain ⟨g1, g2, g3, g4, g5⟩ := h3 i (by omega)
      refine ⟨by rw [World.cell?_setCell_other _ _ _ _ (by intro x; exact e (congrArg Addr.off x).symm)]; exact g1, g2, by rw [hz]; exact g3, g4, fun k hk => ⟨by rw [far (R i) k g4]; exact (g5 k hk).1, by rw [World.frozen?_setCell]; exact (g5 k hk).2⟩⟩
  · by_cases e1 : i = m
    · by_cases e2 : j = m
      · omega
      · simp only [e1, e2, if_true, if_false] at e
        exact absurd e.symm (hne j (by omega))
    · by_cases e2 : j = m
      · simp only [e1, e2, if_true, if_false] at e
        exact absurd e (hne i (by omega))
      · simp only [e1, e2, if_false] at e
        exact h4 i j (by omega) (by omega) e
end
end Go.Proofs.YtpmppgmnnnlonaaDoor
