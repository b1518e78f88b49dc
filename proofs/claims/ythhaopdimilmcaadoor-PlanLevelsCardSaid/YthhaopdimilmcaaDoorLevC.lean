/- Whether there is enough for a task: plain. -/
import Derived.Test.YthhaopdimilmcaaDoorLevB
namespace Go.Proofs.YthhaopdimilmcaaDoor
open Go.RowKit
/-- Under way at a time. -/
def Act (f t : Nat → Int) (z : Nat → Bool) (x : Int) (j : Nat) : Prop := z j = true ∧ f j ≤ x ∧ x < t j
instance (f t : Nat → Int) (z : Nat → Bool) (x : Int) (j : Nat) : Decidable (Act f t z x j) := by unfold Act; infer_instance
/-- What the first tasks use at a time, on top of something. -/
def lay (T : Plan) (f t : Nat → Int) (z : Nat → Bool) (r : Nat) (x s : Int) : Nat → Int
  | 0 => s
  | k + 1 => if Act f t z x k then lay T f t z r x s k + T.use k r else lay T f t z r x s k
theorem lay_bd {T : Plan} (hU : ∀ j r, 0 ≤ T.use j r ∧ T.use j r ≤ 1000000) (f t : Nat → Int) (z : Nat → Bool) (r : Nat) (x s : Int) (hs : 0 ≤ s ∧ s ≤ 1000000) : ∀ k, 0 ≤ lay T f t z r x s k ∧ lay T f t z r x s k ≤ 1000000 + 1000000 * (k : Int) := by
  intro k
  induction k with
  | zero => simpa [lay] using hs
  | succ k ih =>
    have h := hU k r
    unfold lay
    split <;> omega
/-- The times at which it is asked. -/
def atL (f : Nat → Int) (z : Nat → Bool) (x y : Int) : Nat → List Int
  | 0 => [x]
  | k + 1 => if z k = true ∧ x < f k ∧ f k < y then atL f z x y k ++ [f k] else atL f z x y k
theorem mem_atL {f : Nat → Int} {z : Nat → Bool} {x y u : Int} : ∀ k, u ∈ atL f z x y k ↔ u = x ∨ ∃ j, j < k ∧ z j = true ∧ x < f j ∧ f j < y ∧ u = f j := by
  intro k
  induction k with
  | zero => simp [atL]
  | succ k ih =>
    unfold atL
    by_cases h : z k = true ∧ x < f k ∧ f k < y
    · rw [if_pos h]
      simp only [List.mem_append, ih, List.mem_singleton]
      constructor
      · rintro ((h1 | ⟨j, h1, h2⟩) | h1)
        · exact .inl h1
        · exact .inr ⟨j, by omega, h2⟩
        · exact .inr ⟨k, by omega, h.1, h.2.1, h.2.2, h1⟩
      · rintro (h1 | ⟨j, h1, h2⟩)
        · exact .inl (.inl h1)
        · by_cases e : j = k
          · subst e; exact .inr h2.2.2.2
          · exact .inl (.inr ⟨j, by omega, h2⟩)
    · rw [if_neg h, ih]
      constructor
      · rintro (h1 | ⟨j, h1, h2⟩)
        · exact .inl h1
        · exact .inr ⟨j, by omega, h2⟩
      · rintro (h1 | ⟨j, h1, h2⟩)
        · exact .inl h1
        · by_cases e : j = k
          · subst e; exact absurd ⟨h2.1, h2.2.1, h2.2.2.1⟩ h
          · exact .inr ⟨j, by omega, h2⟩
theorem atL_len (f : Nat → Int) (z : Nat → Bool) (x y : Int) : ∀ k, 1 ≤ (atL f z x y k).length ∧ (atL f z x y k).length ≤ k + 1 := by
  intro k
  induction k with
  | zero => simp [atL]
  | succ k ih =>
    unfold atL
    split
    · simp only [List.length_append, List.length_singleton]; omega
    · omega
/-- There is enough of one resource; of all. -/
def FitR (T : Plan) (f t : Nat → Int) (z : Nat → Bool) (n : Nat) (hv : Nat → Int) (i : Nat) (x : Int) (r : Nat) : Prop :=
  T.use i r ≠ 0 → T.len i ≠ 0 → ∀ u, u ∈ atL f z x (x + T.len i) n → lay T f t z r u (T.use i r) n ≤ hv r
def FitP (T : Plan) (f t : Nat → Int) (z : Nat → Bool) (n hn : Nat) (hv : Nat → Int) (i : Nat) (x : Int) : Prop := ∀ r, r < hn → FitR T f t z n hv i x r
/-- Numbers as cells. -/
def itV (l : List Int) : List Value := l.map fun (n : Int) => Value.int .i64 n
theorem itV_snoc (l : List Int) (x : Int) : itV (l ++ [x]) = itV l ++ [.int .i64 x] := by simp [itV]
theorem itV_at (l : List Int) (k : Nat) (hk : k < l.length) : (itV l)[k]? = some (.int .i64 (l.getD k 0)) := by
  simp [itV, List.getD, hk]
theorem own_ints {w : World} {b : Nat} {v : Value} {l : List Int} (hl : 1 ≤ l.length) (h8 : w.ownsRow b 3 1 v l.length (itV l)) : ∃ g cap, v = .slice (some ⟨g, 0, none⟩) l.length cap ∧ b ≤ g ∧ OwnI w g l.length fun j => l.getD j 0 := by
  have hlt := h8.lt
  have hcells := fun (g : Nat) (hg : v.ownBlock = some g) => h8.cells hg
  rcases h8.2 with ⟨rfl, h0⟩ | ⟨g, cap, cur, rfl, hb, hh, hc1, hc2, _⟩
  · omega
  · refine ⟨g, cap, rfl, hb, (hlt g rfl).2, fun k hk => ⟨?_, ?_⟩⟩
    · have h1 := hcells g rfl k _ (itV_at l k hk)
      rw [Addr.add_lit] at h1
      simpa using h1
    · simp [World.frozen?, hh]
/-- The times under way. -/
def AtSt (w0 : World) (b : Nat) (v : Value) (l : List Int) (wr : World) : Prop := b ≤ wr.heap.size ∧ w0.heap.size ≤ b ∧ wr.ownsRow b 3 1 v l.length (itV l) ∧ Below w0.heap.size w0 wr
theorem AtSt.call {w0 : World} {b : Nat} {v : Value} {l : List Int} {wr w' : World} (h : AtSt w0 b v l wr) (hb : Below wr.heap.size wr w') : AtSt w0 b v l w' := by
  obtain ⟨h1, h2, h4, h5⟩ := h
  exact ⟨Nat.le_trans h1 hb.size, h2, h4.kept (row := none) ⟨hb.os, hb.tape, hb.output, hb.size, fun k hk _ => hb.block k hk⟩ (by cases hv : v.ownBlock <;> simp), thenB h5 hb⟩
theorem AtSt.alloc {w0 : World} {b : Nat} {v : Value} {l : List Int} {wr : World} (h : AtSt w0 b v l wr) (o : Obj) : AtSt w0 b v l (wr.alloc o) := h.call (Below.alloc (Below.refl _ _) (Nat.le_refl _) _)
theorem AtSt.start (w0 w : World) (hb : Below w0.heap.size w0 w) (x : Int) : AtSt w0 w.heap.size (.slice (some ⟨w.heap.size, 0, none⟩) 1 1) [x] (w.alloc (.cells #[.int .i64 x] 3)) :=
  ⟨by simp, hb.size, ⟨rfl, .inr ⟨w.heap.size, 1, #[.int .i64 x], rfl, Nat.le_refl _, by show (w.heap.push _)[w.heap.size]? = _; simp, Nat.le_refl _, by simp [maxLen], rfl, rfl⟩⟩, hb.alloc hb.size _⟩
theorem AtSt.grow {w0 : World} {b : Nat} {v v' : Value} {l : List Int} {x : Int} {w1 w2 : World} {o : Obj} (h : AtSt w0 b v l w1) (hg : (w1.alloc o).grownBy w2 v.ownBlock) (hown : w2.ownsRow b 3 1 v' (l.length + 1) (itV l ++ [.int .i64 x])) : AtSt w0 b v' (l ++ [x]) w2 := by
  obtain ⟨h1, h2, h4, h5⟩ := h
  have hlt := h4.lt
  have hbl : Below b w1 w2 := (Below.alloc (Below.refl _ _) h1 o).grown hg (by simp; omega) (fun k hk => (hlt k hk).1)
  refine ⟨Nat.le_trans h1 hbl.size, h2, ?_, h5.trans (hbl.mono h2)⟩
  rw [itV_snoc, List.length_append]
  exact hown
/-- A task's cells, and what use answers of it. -/
theorem use_at {w : World} {aa : Addr} {AL AU : Nat → Option Addr} {CL CU : Nat → Nat} {T : Plan} (hR : PlanR w (some aa) AL AU CL CU T) {j : Nat} (hj : j < T.n) : ∃ Lx Nb al lc cl au uc cu, w.cell? (aa.add (j * 4)) = some (.int .i64 Lx) ∧ w.cell? { block := (aa.add (j * 4)).block, off := (aa.add (j * 4)).off + 1 } = some (.int .i64 Nb) ∧ w.cell? { block := (aa.add (j * 4)).block, off := (aa.add (j * 4)).off + 2 } = some (.slice al lc cl) ∧ w.cell? { block := (aa.add (j * 4)).block, off := (aa.add (j * 4)).off + 3 } = some (.slice au uc cu) ∧
    ∀ (r : Nat) w', Below w.heap.size w w' → Calls Tryd.prog 65 #[.agg #[.int .i64 Lx, .int .i64 Nb, .slice al lc cl, .slice au uc cu], .int .i64 (r : Int)] w' fun e w2 => e = .returned (.int .i64 (T.use j r)) ∧ Below w'.heap.size w' w2 := by
  obtain ⟨c0, c1, c2, c3⟩ := hR.at hj
  exact ⟨_, _, _, _, _, _, _, _, c0, c1, c2, c3, fun r w' hb => by rw [Plan.use_lt hj]; exact use_any _ _ _ _ _ _ _ _ r _ w' ((hR.call hb).ints hj)⟩
end Go.Proofs.YthhaopdimilmcaaDoor
