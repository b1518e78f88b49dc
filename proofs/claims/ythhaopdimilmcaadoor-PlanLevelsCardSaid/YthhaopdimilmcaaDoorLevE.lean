/- The search for a place: plain. -/
import Derived.Test.YthhaopdimilmcaaDoorLevD
namespace Go.Proofs.YthhaopdimilmcaaDoor
open Go.RowKit
/-- A search: on and on until it holds. -/
inductive Srch (P : Int → Prop) (g : Int → Int) : Int → Int → Prop
  | stop {x : Int} (h : P x) : Srch P g x x
  | step {x y : Int} (h : ¬ P x) (r : Srch P g (g x) y) : Srch P g x y
theorem Srch.ends {P : Int → Prop} {g : Int → Int} {x y : Int} (h : Srch P g x y) : P y := by
  induction h with
  | stop h => exact h
  | step _ _ ih => exact ih
theorem Srch.one {P : Int → Prop} {g : Int → Int} {x y : Int} (h : Srch P g x y) : ∀ {y'}, Srch P g x y' → y = y' := by
  induction h with
  | stop h => intro y' h'; cases h' with
    | stop _ => rfl
    | step h2 _ => exact absurd h h2
  | step h _ ih => intro y' h'; cases h' with
    | stop h2 => exact absurd h2 h
    | step _ r => exact ih r
theorem Srch.le {P : Int → Prop} {g : Int → Int} (hg : ∀ x, x ≤ g x) {x y : Int} (h : Srch P g x y) : x ≤ y := by
  induction h with
  | stop h => exact Int.le_refl _
  | step _ _ ih => exact Int.le_trans (hg _) ih
theorem laterF_ge (f t : Nat → Int) (z : Nat → Bool) (x : Int) (n : Nat) : x ≤ laterF f t z x n := by
  rcases laterF_ways f t z x n with ⟨h, _⟩ | ⟨h, _⟩ <;> omega
/-- How many end behind a time. -/
def cntT (t : Nat → Int) (z : Nat → Bool) (x : Int) : Nat → Nat
  | 0 => 0
  | k + 1 => if z k = true ∧ x < t k then cntT t z x k + 1 else cntT t z x k
theorem cntT_mono (t : Nat → Int) (z : Nat → Bool) {x y : Int} (h : x ≤ y) : ∀ k, cntT t z y k ≤ cntT t z x k := by
  intro k
  induction k with
  | zero => exact Nat.le_refl _
  | succ k ih =>
    unfold cntT
    by_cases h1 : z k = true ∧ y < t k
    · rw [if_pos h1, if_pos ⟨h1.1, by omega⟩]; omega
    · rw [if_neg h1]; split <;> omega
theorem cntT_lt {t : Nat → Int} {z : Nat → Bool} {x y : Int} (h : x ≤ y) {j : Nat} (hz : z j = true) (h1 : x < t j) (h2 : t j ≤ y) : ∀ k, j < k → cntT t z y k < cntT t z x k := by
  intro k
  induction k with
  | zero => intro hj; exact absurd hj (Nat.not_lt_zero j)
  | succ k ih =>
    intro hj
    unfold cntT
    by_cases e : j = k
    · subst e
      have := cntT_mono t z h j
      rw [if_neg (by omega), if_pos ⟨hz, h1⟩]; omega
    · have := ih (by omega)
      by_cases h3 : z k = true ∧ y < t k
      · rw [if_pos h3, if_pos ⟨h3.1, by omega⟩]; omega
      · rw [if_neg h3]; split <;> omega
theorem lay_none {T : Plan} {f t : Nat → Int} {z : Nat → Bool} {r : Nat} {x s : Int} : ∀ k, (∀ j, j < k → ¬ Act f t z x j) → lay T f t z r x s k = s := by
  intro k
  induction k with
  | zero => intro _; rfl
  | succ k ih => intro h; unfold lay; rw [if_neg (h k (by omega)), ih fun j hj => h j (by omega)]
/-- If a task doesn't fit, another ends later. -/
theorem nofit {T : Plan} {f t : Nat → Int} {z : Nat → Bool} {n hn : Nat} {hv : Nat → Int} {i : Nat} {x : Int} (h0 : ∀ r, r < hn → T.use i r ≤ hv r) (h : ¬ FitP T f t z n hn hv i x) : ∃ j, j < n ∧ z j = true ∧ x < t j := by
  refine Classical.byContradiction fun hno => h fun r hr _ _ u hu => ?_
  have hend : ∀ j, j < n → z j = true → t j ≤ x := fun j hj hz => Classical.byContradiction fun h1 => hno ⟨j, hj, hz, by omega⟩
  have hux : x ≤ u := by
    rcases (mem_atL n).1 hu with rfl | ⟨j, _, _, h3, _, rfl⟩ <;> omega
  rw [lay_none n fun j hj ha => by have := hend j hj ha.1; have := ha.2.2; omega]
  exact h0 r hr
/-- So the search goes on to a later end, and fewer are left. -/
theorem nofit_later {T : Plan} {f t : Nat → Int} {z : Nat → Bool} {n hn : Nat} {hv : Nat → Int} {i : Nat} {x : Int} (h0 : ∀ r, r < hn → T.use i r ≤ hv r) (h : ¬ FitP T f t z n hn hv i x) : x < laterF f t z x n ∧ (∃ j, j < n ∧ z j = true ∧ laterF f t z x n = t j) ∧ cntT t z (laterF f t z x n) n < cntT t z x n := by
  obtain ⟨j, h1, h2, h3⟩ := nofit h0 h
  rcases laterF_ways f t z x n with ⟨_, g⟩ | ⟨g1, ⟨k, g2, g3, g4⟩, _⟩
  · have := g j h1 h2; omega
  · exact ⟨g1, ⟨k, g2, g3, g4.symm⟩, cntT_lt (by omega) g3 (by omega) (by omega) n g2⟩
/-- One task more is in. -/
def updZ (z : Nat → Bool) (i : Nat) (j : Nat) : Bool := if j = i then true else z j
theorem inZ_upd (z : Nat → Bool) (i : Nat) : inZ (updZ z i) = Plan.upd (inZ z) i 1 := by
  funext j
  unfold inZ updZ Plan.upd
  by_cases h : j = i <;> simp [h]
/-- What place has done. -/
def PlaceR (T : Plan) (B I n hn : Nat) (hv f t : Nat → Int) (z : Nat → Bool) (M : Int) (i : Nat) (c : Nat) (w : World) (e : Ending) (w' : World) : Prop :=
  (∃ v, e = .returned v) ∧ ∃ s, Srch (FitP T f t z n hn hv i) (fun x => laterF f t z x n) (T.mx f i (T.lc i)) s ∧ s ≤ M + 3000000 ∧ OwnS w' B n (Plan.upd f i s) (Plan.upd t i (s + T.len i)) ∧ OwnI w' I n (inZ (updZ z i)) ∧ (∀ p u, p.block ≠ B → p.block ≠ I → w.cell? p = some u → w'.cell? p = some u) ∧ Below c w w'
theorem OwnI.far {w : World} {B n : Nat} {f : Nat → Int} (h : OwnI w B n f) {p : Addr} (hp : p.block ≠ B) (v : Value) : OwnI (w.setCell p v) B n f :=
  ⟨by have := h.1; simpa [World.setCell] using this, fun j hj => ⟨by rw [World.cell?_setCell_other _ _ _ _ (by intro e; exact hp (congrArg Addr.block e))]; exact (h.2 j hj).1, by rw [World.frozen?_setCell]; exact (h.2 j hj).2⟩⟩
theorem OwnS.far {w : World} {B n : Nat} {f t : Nat → Int} (h : OwnS w B n f t) {p : Addr} (hp : p.block ≠ B) (v : Value) : OwnS (w.setCell p v) B n f t :=
  ⟨by have := h.1; simpa [World.setCell] using this, fun j hj => ⟨⟨by rw [World.cell?_setCell_other _ _ _ _ (by intro e; exact hp (congrArg Addr.block e))]; exact (h.2 j hj).1.1, by rw [World.frozen?_setCell]; exact (h.2 j hj).1.2⟩, by rw [World.cell?_setCell_other _ _ _ _ (by intro e; exact hp (congrArg Addr.block e))]; exact (h.2 j hj).2.1, by rw [World.frozen?_setCell]; exact (h.2 j hj).2.2⟩⟩
theorem cell_far {w : World} {q p : Addr} {u : Value} (h : w.cell? q = some u) (hp : p.block ≠ q.block) (v : Value) : (w.setCell p v).cell? q = some u := by
  rw [World.cell?_setCell_other _ _ _ _ (by intro e; exact hp (congrArg Addr.block e))]; exact h
end Go.Proofs.YthhaopdimilmcaaDoor
