/- Latest times by relaxation, in plain Lean; spans as cells. -/
import Derived.Test.YthhaopdimilmcaaDoorRefE
namespace Go.Proofs.YthhaopdimilmcaaDoor
open Go.RowKit
namespace Plan
theorem exists_lateAt {T : Plan} (hT : T.Ok) (y : Int) {o : List Nat} (ho : Topo T o) (hl : o.length = T.n) : ∀ p, p ≤ T.n → ∃ q, LateAt T y o p q := by
  intro p
  induction p with
  | zero => intro _; exact ⟨_, LateAt.zero hT y hl⟩
  | succ p ih =>
    intro hp
    obtain ⟨q, hq⟩ := ih (by omega)
    have h1 : T.n - 1 - p < o.length := by omega
    exact ⟨_, hq.step hT ho hl (by omega) (List.getElem?_eq_getElem h1)⟩
theorem exists_latest {T : Plan} (hT : T.Ok) (y : Int) : ∃ q, Latest T y q ∧ ∀ j, j < T.n → y - 122000000 ≤ q j := by
  obtain ⟨o, ho, hl⟩ := hT.full
  obtain ⟨q, hq⟩ := exists_lateAt hT y ho hl T.n (Nat.le_refl _)
  refine ⟨q, hq.latest ho hl, fun j hj => ?_⟩
  have h1 := (hq.1 j hj).2
  have h2 := hT.size
  omega
/-- How far beginnings are from the latest. -/
def sumD (s q : Nat → Int) : Nat → Nat
  | 0 => 0
  | k + 1 => sumD s q k + (s k - q k).toNat
theorem sumD_far {s q : Nat → Int} {j : Nat} {v : Int} : ∀ k, k ≤ j → sumD (upd s j v) q k = sumD s q k := by
  intro k
  induction k with
  | zero => intro _; rfl
  | succ k ih => intro hk; unfold sumD; rw [ih (by omega), upd_ne _ _ (show k ≠ j by omega)]
theorem sumD_less {s q : Nat → Int} {j : Nat} {v : Int} (h1 : v < s j) (h2 : q j ≤ v) : ∀ k, j < k → sumD (upd s j v) q k < sumD s q k := by
  intro k
  induction k with
  | zero => intro h; exact absurd h (Nat.not_lt_zero j)
  | succ k ih =>
    intro hk
    unfold sumD
    by_cases e : j = k
    · subst e
      rw [sumD_far j (Nat.le_refl _), upd_at]
      omega
    · rw [upd_ne _ _ (show k ≠ j from fun h => e h.symm)]
      have := ih (by omega)
      omega
/-- Beginnings that are no sooner than the latest. -/
def RL (T : Plan) (y : Int) (q s : Nat → Int) : Prop := ∀ j, j < T.n → q j ≤ s j ∧ s j ≤ y - T.len j
theorem RL.step {T : Plan} (hT : T.Ok) {y : Int} {q s : Nat → Int} (hq : Latest T y q) (h : RL T y q s) {i k : Nat} (hi : i < T.n) (hk : k < T.lc i) (hlt : s i < s (T.to i k) + T.wait i k) :
    RL T y q (upd s (T.to i k) (s i - T.wait i k)) ∧ sumD (upd s (T.to i k) (s i - T.wait i k)) q T.n < sumD s q T.n := by
  have h1 := hq.1.2 i hi k hk
  have h2 := (h i hi).1
  have h3 := (to_lt hT hi hk).1
  refine ⟨fun j hj => ?_, sumD_less (by omega) (by omega) _ h3⟩
  by_cases e : j = T.to i k
  · subst e
    rw [upd_at]
    have := (h _ hj).2
    omega
  · rw [upd_ne _ _ e]; exact h j hj
theorem RL.done {T : Plan} {y : Int} {q s : Nat → Int} (hq : Latest T y q) (h : RL T y q s) (hl : ∀ i, i < T.n → ∀ k, k < T.lc i → s (T.to i k) + T.wait i k ≤ s i) : Latest T y s :=
  ⟨⟨fun j hj => (h j hj).2, hl⟩, fun q' hq' j hj => Int.le_trans (hq.2 q' hq' j hj) (h j hj).1⟩
end Plan
/-- Spans as cells. -/
def spV (f t : Nat → Int) : Nat → List Value
  | 0 => []
  | k + 1 => spV f t k ++ [.int .i64 (f k), .int .i64 (t k)]
theorem spV_len (f t : Nat → Int) : ∀ k, (spV f t k).length = k * 2 := by
  intro k
  induction k with
  | zero => rfl
  | succ k ih => unfold spV; rw [List.length_append, ih]; simp; omega
theorem spV_at (f t : Nat → Int) : ∀ k i, i < k → (spV f t k)[i * 2]? = some (.int .i64 (f i)) ∧ (spV f t k)[i * 2 + 1]? = some (.int .i64 (t i)) := by
  intro k
  induction k with
  | zero => intro i hi; exact absurd hi (Nat.not_lt_zero i)
  | succ k ih =>
    intro i hi
    have hl := spV_len f t k
    unfold spV
    by_cases e : i = k
    · subst e
      refine ⟨?_, ?_⟩
      · rw [List.getElem?_append_right (by omega), hl, Nat.sub_self]; rfl
      · rw [List.getElem?_append_right (by omega), hl, show i * 2 + 1 - i * 2 = 1 by omega]; rfl
    · obtain ⟨h1, h2⟩ := ih i (by omega)
      exact ⟨by rw [List.getElem?_append_left (by omega)]; exact h1, by rw [List.getElem?_append_left (by omega)]; exact h2⟩
/-- Spans that the call made, in whatever slice. -/
def SpansV (w : World) (b : Nat) (v : Value) (n : Nat) (f t : Nat → Int) : Prop := ∃ ob c, v = .slice ob n c ∧ (0 < n → ∃ B, ob = some ⟨B, 0, none⟩ ∧ b ≤ B ∧ OwnS w B n f t)
theorem SpansV.call {w w' : World} {b : Nat} {v : Value} {n : Nat} {f t : Nat → Int} (h : SpansV w b v n f t) (hb : Below w.heap.size w w') : SpansV w' b v n f t := by
  obtain ⟨ob, c, h1, h2⟩ := h
  refine ⟨ob, c, h1, fun h0 => ?_⟩
  obtain ⟨B, h3, h4, h5⟩ := h2 h0
  exact ⟨B, h3, h4, h5.call hb⟩
theorem SpansV.low {w : World} {b c : Nat} {v : Value} {n : Nat} {f t : Nat → Int} (h : SpansV w c v n f t) (hb : b ≤ c) : SpansV w b v n f t := by
  obtain ⟨ob, c, h1, h2⟩ := h
  refine ⟨ob, c, h1, fun h0 => ?_⟩
  obtain ⟨B, h3, h4, h5⟩ := h2 h0
  exact ⟨B, h3, Nat.le_trans hb h4, h5⟩
theorem SpansV.own {w : World} {b : Nat} {v : Value} {n : Nat} {f t : Nat → Int} (h : w.ownsRow b 38 2 v n (spV f t n)) : SpansV w b v n f t := by
  have hlt := h.lt
  have hcells := fun (g : Nat) (hg : v.ownBlock = some g) => h.cells hg
  rcases h.2 with ⟨rfl, h0⟩ | ⟨g, cap, cur, rfl, hb, hh, hc1, hc2, _⟩
  · exact ⟨none, 0, by rw [h0], fun h1 => by omega⟩
  · refine ⟨some ⟨g, 0, none⟩, cap, rfl, fun _ => ⟨g, rfl, hb, (hlt g rfl).2, fun i hi => ?_⟩⟩
    obtain ⟨h1, h2⟩ := spV_at f t n i hi
    have h3 := hcells g rfl _ _ h1
    have h4 := hcells g rfl _ _ h2
    rw [Addr.add_lit] at h3 h4
    simp only [Nat.zero_add] at h3 h4
    exact ⟨⟨h3, by simp [World.frozen?, hh]⟩, h4, by simp [World.frozen?, hh]⟩
/-- What the document's Late answers. -/
def RLateV (y : Int) (T : Plan) (b : Nat) (v : Value) (x : Int) (w : World) : Prop := (T.chk ≠ 0 ∧ v = .slice none 0 0 ∧ x = T.chk) ∨ (T.chk = 0 ∧ ∃ s, Plan.Fix T s ∧ ((y < Plan.last T s T.n ∧ v = .slice none 0 0 ∧ x = 12) ∨ (Plan.last T s T.n ≤ y ∧ 1099511627776 < y ∧ v = .slice none 0 0 ∧ x = 4) ∨ (Plan.last T s T.n ≤ y ∧ y ≤ 1099511627776 ∧ x = 0 ∧ ∃ q, SpansV w b v T.n q (fun i => q i + T.len i) ∧ Plan.Latest T y q)))
end Go.Proofs.YthhaopdimilmcaaDoor
