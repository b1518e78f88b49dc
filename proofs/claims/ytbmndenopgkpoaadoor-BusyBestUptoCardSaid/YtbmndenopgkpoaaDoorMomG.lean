/- The operations on sets. -/
import Derived.Test.YtbmndenopgkpoaaDoorMomE
namespace Go.Proofs.YtbmndenopgkpoaaDoor
open Go.RowKit
theorem IvS.allocs {w : World} {v : Value} {l : List Iv} (h : IvS w v l) (o : Obj) : IvS (w.alloc o) v l := h.call (Below.alloc (Below.refl _ _) (Nat.le_refl _) o)
/-- What an operation answers: a set. -/
def SetR (P : List Iv → Prop) (w : World) (e : Ending) (w' : World) : Prop := ∃ v o, e = .returned (.agg #[v]) ∧ P o ∧ IvS w' v o ∧ NewV w.heap.size v ∧ Below w.heap.size w w'
theorem IvS.far {w : World} {v : Value} {l : List Iv} {b : Nat} (h : IvS w v l) (hv : ∀ a c n, v = .slice (some a) n c → a.block ≠ b) (x : Value) (o : Nat) : IvS (w.setCell ⟨b, o, none⟩ x) v l := by
  obtain ⟨ob, cap, h1, h2, h3, h4⟩ := h
  refine ⟨ob, cap, h1, h2, h3, fun a ha => ?_⟩
  obtain ⟨g1, g2⟩ := h4 a ha
  have hne := hv a cap l.length (by rw [h1, ha])
  refine ⟨fun h => by have := g1 h; simpa [World.setCell] using this, fun k hk => ?_⟩
  obtain ⟨g3, g4⟩ := g2 k hk
  exact ⟨by rw [World.cell?_setCell_other _ _ _ _ (by intro e; exact hne (by rw [← ivAdd_block a (k * 2), ← e]))]; exact g3, by rw [World.cell?_setCell_other _ _ _ _ (by intro e; exact hne (by rw [← ivAdd_block a (k * 2 + 1), ← e]))]; exact g4⟩
end Go.Proofs.YtbmndenopgkpoaaDoor
