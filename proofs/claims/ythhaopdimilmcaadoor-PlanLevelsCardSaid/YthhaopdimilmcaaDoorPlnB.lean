/- Plans in memory. -/
import Derived.Test.YthhaopdimilmcaaDoorPlnA
import Derived.Test.YthhaopdimilmcaaDoorMore
import Derived.Deep.Slices
namespace Go.Proofs.YthhaopdimilmcaaDoor
open Go.RowKit
theorem add_block (a : Addr) (k : Nat) : (a.add k).block = a.block := by unfold Addr.add; split <;> rfl
theorem add_to (a : Addr) (k j : Nat) : a.add (k + j) = (a.add k).add j := (Go.Deep.add_add a k j).symm
/-- Links that lie somewhere; numbers. -/
def LinksR (w : World) (ob : Option Addr) (m : Nat) (t k g : Nat → Int) : Prop :=
  (0 < m → ∃ b, ob = some b) ∧ ∀ b, ob = some b → (0 < m → b.block < w.heap.size) ∧ ∀ j, j < m → w.cell? (b.add (j * 3)) = some (.int .i64 (t j)) ∧ w.cell? (b.add (j * 3 + 1)) = some (.int .i64 (k j)) ∧ w.cell? (b.add (j * 3 + 2)) = some (.int .i64 (g j))
def IntsR (w : World) (ob : Option Addr) (m : Nat) (u : Nat → Int) : Prop :=
  (0 < m → ∃ b, ob = some b) ∧ ∀ b, ob = some b → (0 < m → b.block < w.heap.size) ∧ ∀ j, j < m → w.cell? (b.add j) = some (.int .i64 (u j))
theorem LinksR.call {w w' : World} {ob : Option Addr} {m : Nat} {t k g : Nat → Int} (h : LinksR w ob m t k g) (hb : Below w.heap.size w w') : LinksR w' ob m t k g := by
  refine ⟨h.1, fun b e => ?_⟩
  obtain ⟨h1, h2⟩ := h.2 b e
  refine ⟨fun h0 => Nat.lt_of_lt_of_le (h1 h0) hb.size, fun j hj => ?_⟩
  obtain ⟨g1, g2, g3⟩ := h2 j hj
  have hl : b.block < w.heap.size := h1 (by omega)
  exact ⟨(hb.cell (p := b.add (j * 3)) (by rw [add_block]; exact hl)).trans g1, (hb.cell (p := b.add (j * 3 + 1)) (by rw [add_block]; exact hl)).trans g2, (hb.cell (p := b.add (j * 3 + 2)) (by rw [add_block]; exact hl)).trans g3⟩
theorem IntsR.call {w w' : World} {ob : Option Addr} {m : Nat} {u : Nat → Int} (h : IntsR w ob m u) (hb : Below w.heap.size w w') : IntsR w' ob m u := by
  refine ⟨h.1, fun b e => ?_⟩
  obtain ⟨h1, h2⟩ := h.2 b e
  refine ⟨fun h0 => Nat.lt_of_lt_of_le (h1 h0) hb.size, fun j hj => ?_⟩
  have hl : b.block < w.heap.size := h1 (by omega)
  exact (hb.cell (p := b.add j) (by rw [add_block]; exact hl)).trans (h2 j hj)
theorem LinksR.at {w : World} {b : Addr} {m : Nat} {t k g : Nat → Int} (h : LinksR w (some b) m t k g) {j : Nat} (hj : j < m) : w.cell? (b.add (j * 3)) = some (.int .i64 (t j)) ∧ w.cell? { block := (b.add (j * 3)).block, off := (b.add (j * 3)).off + 1 } = some (.int .i64 (k j)) ∧ w.cell? { block := (b.add (j * 3)).block, off := (b.add (j * 3)).off + 2 } = some (.int .i64 (g j)) := by
  obtain ⟨h1, h2, h3⟩ := (h.2 b rfl).2 j hj
  rw [add_to] at h2 h3
  exact ⟨h1, h2, h3⟩
theorem IntsR.at {w : World} {b : Addr} {m : Nat} {u : Nat → Int} (h : IntsR w (some b) m u) {j : Nat} (hj : j < m) : w.cell? (b.add j) = some (.int .i64 (u j)) := (h.2 b rfl).2 j hj
/-- A plan that lies somewhere. -/
def PlanR (w : World) (oa : Option Addr) (AL AU : Nat → Option Addr) (CL CU : Nat → Nat) (T : Plan) : Prop :=
  (0 < T.n → ∃ a, oa = some a) ∧ (∀ a, oa = some a → (0 < T.n → a.block < w.heap.size) ∧ ∀ i, i < T.n → w.cell? (a.add (i * 4)) = some (.int .i64 (T.len i)) ∧ w.cell? (a.add (i * 4 + 1)) = some (.int .i64 (T.nb i)) ∧ w.cell? (a.add (i * 4 + 2)) = some (.slice (AL i) (T.lc i) (CL i)) ∧ w.cell? (a.add (i * 4 + 3)) = some (.slice (AU i) (T.uc i) (CU i))) ∧
    ∀ i, i < T.n → LinksR w (AL i) (T.lc i) (T.lt i) (T.lk i) (T.lg i) ∧ IntsR w (AU i) (T.uc i) (T.us i)
theorem PlanR.call {w w' : World} {oa : Option Addr} {AL AU : Nat → Option Addr} {CL CU : Nat → Nat} {T : Plan} (h : PlanR w oa AL AU CL CU T) (hb : Below w.heap.size w w') : PlanR w' oa AL AU CL CU T := by
  refine ⟨h.1, fun a e => ?_, fun i hi => ⟨(h.2.2 i hi).1.call hb, (h.2.2 i hi).2.call hb⟩⟩
  obtain ⟨h1, h2⟩ := h.2.1 a e
  refine ⟨fun h0 => Nat.lt_of_lt_of_le (h1 h0) hb.size, fun i hi => ?_⟩
  obtain ⟨g1, g2, g3, g4⟩ := h2 i hi
  have hl : a.block < w.heap.size := h1 (by omega)
  exact ⟨(hb.cell (p := a.add (i * 4)) (by rw [add_block]; exact hl)).trans g1, (hb.cell (p := a.add (i * 4 + 1)) (by rw [add_block]; exact hl)).trans g2, (hb.cell (p := a.add (i * 4 + 2)) (by rw [add_block]; exact hl)).trans g3, (hb.cell (p := a.add (i * 4 + 3)) (by rw [add_block]; exact hl)).trans g4⟩
theorem PlanR.alloc {w : World} {oa : Option Addr} {AL AU : Nat → Option Addr} {CL CU : Nat → Nat} {T : Plan} (h : PlanR w oa AL AU CL CU T) (o : Obj) : PlanR (w.alloc o) oa AL AU CL CU T := h.call (Below.alloc (Below.refl _ _) (Nat.le_refl _) _)
theorem PlanR.at {w : World} {a : Addr} {AL AU : Nat → Option Addr} {CL CU : Nat → Nat} {T : Plan} (h : PlanR w (some a) AL AU CL CU T) {i : Nat} (hi : i < T.n) : w.cell? (a.add (i * 4)) = some (.int .i64 (T.len i)) ∧ w.cell? { block := (a.add (i * 4)).block, off := (a.add (i * 4)).off + 1 } = some (.int .i64 (T.nb i)) ∧ w.cell? { block := (a.add (i * 4)).block, off := (a.add (i * 4)).off + 2 } = some (.slice (AL i) (T.lc i) (CL i)) ∧ w.cell? { block := (a.add (i * 4)).block, off := (a.add (i * 4)).off + 3 } = some (.slice (AU i) (T.uc i) (CU i)) := by
  obtain ⟨h1, h2, h3, h4⟩ := (h.2.1 a rfl).2 i hi
  rw [add_to] at h2 h3 h4
  exact ⟨h1, h2, h3, h4⟩
theorem PlanR.links {w : World} {oa : Option Addr} {AL AU : Nat → Option Addr} {CL CU : Nat → Nat} {T : Plan} (h : PlanR w oa AL AU CL CU T) {i : Nat} (hi : i < T.n) : LinksR w (AL i) (T.lc i) (T.lt i) (T.lk i) (T.lg i) := (h.2.2 i hi).1
theorem PlanR.ints {w : World} {oa : Option Addr} {AL AU : Nat → Option Addr} {CL CU : Nat → Nat} {T : Plan} (h : PlanR w oa AL AU CL CU T) {i : Nat} (hi : i < T.n) : IntsR w (AU i) (T.uc i) (T.us i) := (h.2.2 i hi).2
/-- Numbers that lie in a block of the call's own. -/
def OwnI (w : World) (B n : Nat) (f : Nat → Int) : Prop := B < w.heap.size ∧ ∀ j, j < n → w.cell? ⟨B, j, none⟩ = some (.int .i64 (f j)) ∧ w.frozen? ⟨B, j, none⟩ = false
theorem OwnI.call {w w' : World} {B n : Nat} {f : Nat → Int} (h : OwnI w B n f) (hb : Below w.heap.size w w') : OwnI w' B n f :=
  ⟨Nat.lt_of_lt_of_le h.1 hb.size, fun j hj => ⟨(hb.cell (p := ⟨B, j, none⟩) h.1).trans (h.2 j hj).1, (hb.frozen (p := ⟨B, j, none⟩) h.1).trans (h.2 j hj).2⟩⟩
theorem OwnI.alloc {w : World} {B n : Nat} {f : Nat → Int} (h : OwnI w B n f) (o : Obj) : OwnI (w.alloc o) B n f := h.call (Below.alloc (Below.refl _ _) (Nat.le_refl _) _)
theorem OwnI.set {w : World} {B n : Nat} {f : Nat → Int} (h : OwnI w B n f) {i : Nat} (hi : i < n) (v : Int) : OwnI (w.setCell ⟨B, i, none⟩ (.int .i64 v)) B n (Plan.upd f i v) := by
  refine ⟨by have := h.1; simpa [World.setCell] using this, fun j hj => ⟨?_, by rw [World.frozen?_setCell]; exact (h.2 j hj).2⟩⟩
  by_cases e : j = i
  · subst e; rw [World.cell?_setCell_same _ _ _ (h.2 j hj).1, Plan.upd_at]
  · rw [World.cell?_setCell_other _ _ _ _ (by intro x; exact e (congrArg Addr.off x).symm), Plan.upd_ne _ _ e]
    exact (h.2 j hj).1
/-- Spans that lie in a block of the call's own. -/
def OwnS (w : World) (B n : Nat) (f t : Nat → Int) : Prop := B < w.heap.size ∧ ∀ j, j < n → (w.cell? ⟨B, j * 2, none⟩ = some (.int .i64 (f j)) ∧ w.frozen? ⟨B, j * 2, none⟩ = false) ∧ w.cell? ⟨B, j * 2 + 1, none⟩ = some (.int .i64 (t j)) ∧ w.frozen? ⟨B, j * 2 + 1, none⟩ = false
theorem OwnS.call {w w' : World} {B n : Nat} {f t : Nat → Int} (h : OwnS w B n f t) (hb : Below w.heap.size w w') : OwnS w' B n f t :=
  ⟨Nat.lt_of_lt_of_le h.1 hb.size, fun j hj => ⟨⟨(hb.cell (p := ⟨B, j * 2, none⟩) h.1).trans (h.2 j hj).1.1, (hb.frozen (p := ⟨B, j * 2, none⟩) h.1).trans (h.2 j hj).1.2⟩, (hb.cell (p := ⟨B, j * 2 + 1, none⟩) h.1).trans (h.2 j hj).2.1, (hb.frozen (p := ⟨B, j * 2 + 1, none⟩) h.1).trans (h.2 j hj).2.2⟩⟩
theorem OwnS.alloc {w : World} {B n : Nat} {f t : Nat → Int} (h : OwnS w B n f t) (o : Obj) : OwnS (w.alloc o) B n f t := h.call (Below.alloc (Below.refl _ _) (Nat.le_refl _) _)
theorem OwnS.set0 {w : World} {B n : Nat} {f t : Nat → Int} (h : OwnS w B n f t) {i : Nat} (hi : i < n) (v : Int) : OwnS (w.setCell ⟨B, i * 2, none⟩ (.int .i64 v)) B n (Plan.upd f i v) t := by
  refine ⟨by have := h.1; simpa [World.setCell] using this, fun j hj => ⟨⟨?_, by rw [World.frozen?_setCell]; exact (h.2 j hj).1.2⟩, ?_, by rw [World.frozen?_setCell]; exact (h.2 j hj).2.2⟩⟩
  · by_cases e : j = i
    · subst e; rw [World.cell?_setCell_same _ _ _ (h.2 j hj).1.1, Plan.upd_at]
    · rw [World.cell?_setCell_other _ _ _ _ (by intro x; have := congrArg Addr.off x; simp at this; omega), Plan.upd_ne _ _ e]
      exact (h.2 j hj).1.1
  · rw [World.cell?_setCell_other _ _ _ _ (by intro x; have := congrArg Addr.off x; simp at this; omega)]
    exact (h.2 j hj).2.1
theorem OwnS.set1 {w : World} {B n : Nat} {f t : Nat → Int} (h : OwnS w B n f t) {i : Nat} (hi : i < n) (v : Int) : OwnS (w.setCell ⟨B, i * 2 + 1, none⟩ (.int .i64 v)) B n f (Plan.upd t i v) := by
  refine ⟨by have := h.1; simpa [World.setCell] using this, fun j hj => ⟨⟨?_, by rw [World.frozen?_setCell]; exact (h.2 j hj).1.2⟩, ?_, by rw [World.frozen?_setCell]; exact (h.2 j hj).2.2⟩⟩
  · rw [World.cell?_setCell_other _ _ _ _ (by intro x; have := congrArg Addr.off x; simp at this; omega)]
    exact (h.2 j hj).1.1
  · by_cases e : j = i
    · subst e; rw [World.cell?_setCell_same _ _ _ (h.2 j hj).2.1, Plan.upd_at]
    · rw [World.cell?_setCell_other _ _ _ _ (by intro x; have := congrArg Addr.off x; simp at this; omega), Plan.upd_ne _ _ e]
      exact (h.2 j hj).2.1
end Go.Proofs.YthhaopdimilmcaaDoor
