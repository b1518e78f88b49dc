/- The fifteen spans with ends from 0 to 5, as a list that grows; a table of what has been passed. Plain. -/
import Derived.Test.YtpmppgmnnnlonaaDoorSpanP
import Derived.Test.YtpmppgmnnnlonaaDoorSpanE
namespace Go.Proofs.YtpmppgmnnnlonaaDoor
open Go.RowKit
def PL : List (Nat × Nat) := [(0, 1), (0, 2), (0, 3), (0, 4), (0, 5), (1, 2), (1, 3), (1, 4), (1, 5), (2, 3), (2, 4), (2, 5), (3, 4), (3, 5), (4, 5)]
def lo (i : Nat) : Nat := (PL.getD i (0, 1)).1
def hi (i : Nat) : Nat := (PL.getD i (0, 1)).2
def posL (a b : Nat) : Nat := [0, 5, 9, 12, 14, 15, 15].getD a 15 + (b - a - 1)
def rowV (n : Nat) : List Value := (PL.take n).flatMap fun p => [.int .i64 (p.1 : Int), .int .i64 (p.2 : Int)]
theorem lohi (i : Nat) : lo i < hi i ∧ hi i ≤ 5 := by
  unfold lo hi
  rcases Nat.lt_or_ge i 15 with h | h
  · have hh : ∀ i, i < 15 → (PL.getD i (0, 1)).1 < (PL.getD i (0, 1)).2 ∧ (PL.getD i (0, 1)).2 ≤ 5 := by decide
    exact hh i h
  · have e : PL.getD i (0, 1) = (0, 1) := by simp [PL, List.getD, List.getElem?_eq_none (show ([(0, 1), (0, 2), (0, 3), (0, 4), (0, 5), (1, 2), (1, 3), (1, 4), (1, 5), (2, 3), (2, 4), (2, 5), (3, 4), (3, 5), (4, 5)] : List (Nat × Nat)).length ≤ i from h)]
    rw [e]; decide
theorem pos_in (a b : Nat) (h : a < b) (hb : b < 6) : posL a b < 15 ∧ PL[posL a b]? = some (a, b) ∧ posL a (b + 1) = posL a b + 1 := by
  have hh : ∀ b, b < 6 → ∀ a, a < b → posL a b < 15 ∧ PL[posL a b]? = some (a, b) ∧ posL a (b + 1) = posL a b + 1 := by decide
  exact hh b hb a h
theorem pos_row (a : Nat) (h : a < 6) : posL a 6 = posL (a + 1) (a + 1 + 1) := by
  have hh : ∀ a, a < 6 → posL a 6 = posL (a + 1) (a + 1 + 1) := by decide
  exact hh a h
theorem pos_find (a b : Nat) (h : a < b) (hb : b ≤ 5) : ∃ i, i < 15 ∧ lo i = a ∧ hi i = b := by
  have hp := pos_in a b h (by omega)
  refine ⟨posL a b, hp.1, ?_⟩
  unfold lo hi
  rw [List.getD, hp.2.1]
  exact ⟨rfl, rfl⟩
theorem row_step (a b : Nat) (h : a < b) (hb : b < 6) : rowV (posL a b) ++ [.int .i64 (a : Int), .int .i64 (b : Int)] = rowV (posL a (b + 1)) := by
  obtain ⟨h1, h2, h3⟩ := pos_in a b h hb
  unfold rowV
  rw [h3, List.take_add_one, h2, List.flatMap_append]
  rfl
theorem row_at (i : Nat) (hi' : i < 15) : (rowV 15)[i * 2]? = some (.int .i64 (lo i : Int)) ∧ (rowV 15)[i * 2 + 1]? = some (.int .i64 (hi i : Int)) := by
  match i, hi' with
  | 0, _ => exact ⟨rfl, rfl⟩
  | 1, _ => exact ⟨rfl, rfl⟩
  | 2, _ => exact ⟨rfl, rfl⟩
  | 3, _ => exact ⟨rfl, rfl⟩
  | 4, _ => exact ⟨rfl, rfl⟩
  | 5, _ => exact ⟨rfl, rfl⟩
  | 6, _ => exact ⟨rfl, rfl⟩
  | 7, _ => exact ⟨rfl, rfl⟩
  | 8, _ => exact ⟨rfl, rfl⟩
  | 9, _ => exact ⟨rfl, rfl⟩
  | 10, _ => exact ⟨rfl, rfl⟩
  | 11, _ => exact ⟨rfl, rfl⟩
  | 12, _ => exact ⟨rfl, rfl⟩
  | 13, _ => exact ⟨rfl, rfl⟩
  | 14, _ => exact ⟨rfl, rfl⟩
/-- The fifteen spans lie in a block. -/
def Pairs (w : World) (g : Nat) : Prop := g < w.heap.size ∧ ∀ i, i < 15 → w.cell? ⟨g, i * 2, none⟩ = some (.int .i64 (lo i : Int)) ∧ w.cell? ⟨g, i * 2 + 1, none⟩ = some (.int .i64 (hi i : Int))
theorem Pairs.alloc {w : World} {B : Nat} (h : Pairs w B) (o : Obj) : Pairs (w.alloc o) B :=
  ⟨by have := h.1; simp; omega, fun i hi => ⟨(World.cell?_alloc_lt w o ⟨B, i * 2, none⟩ h.1).trans (h.2 i hi).1, (World.cell?_alloc_lt w o ⟨B, i * 2 + 1, none⟩ h.1).trans (h.2 i hi).2⟩⟩
theorem Pairs.call {w w' : World} {B : Nat} (h : Pairs w B) (hb : Below w.heap.size w w') : Pairs w' B :=
  ⟨Nat.lt_of_lt_of_le h.1 hb.size, fun i hi => ⟨(hb.cell (p := ⟨B, i * 2, none⟩) h.1).trans (h.2 i hi).1, (hb.cell (p := ⟨B, i * 2 + 1, none⟩) h.1).trans (h.2 i hi).2⟩⟩
theorem Pairs.set {w : World} {B : Nat} (h : Pairs w B) {p : Addr} (hp : B ≠ p.block) (u : Value) : Pairs (w.setCell p u) B :=
  ⟨by have := h.1; simpa [World.setCell] using this, fun i hi => ⟨(World.cell?_of_block (Below.heap_setCell w p u B hp)).trans (h.2 i hi).1, (World.cell?_of_block (Below.heap_setCell w p u B hp)).trans (h.2 i hi).2⟩⟩
theorem Pairs.own {w : World} {base : Nat} {e : TypeId} {v : Value} (h : w.ownsRow base e 2 v 15 (rowV 15)) : ∃ g cap, v = .slice (some ⟨g, 0, none⟩) 15 cap ∧ base ≤ g ∧ Pairs w g := by
  have hlt := h.lt
  have hc := fun (g : Nat) (hg : v.ownBlock = some g) => h.cells hg
  rcases h.2 with ⟨_, h0⟩ | ⟨g, cap, cur, rfl, hb, hh, _⟩
  · omega
  · refine ⟨g, cap, rfl, hb, (hlt g rfl).2, fun i hi => ?_⟩
    have h1 := hc g rfl (i * 2) _ (row_at i hi).1
    have h2 := hc g rfl (i * 2 + 1) _ (row_at i hi).2
    rw [Addr.add_lit] at h1 h2
    simp only [Nat.zero_add] at h1 h2
    exact ⟨h1, h2⟩
theorem Two.set {w : World} {B : Nat} {a b : Int} (h : Two w B a b) {p : Addr} (hp : B ≠ p.block) (u : Value) : Two (w.setCell p u) B a b :=
  ⟨by have := h.1; simpa [World.setCell] using this, (World.cell?_of_block (Below.heap_setCell w p u B hp)).trans h.2.1, (World.cell?_of_block (Below.heap_setCell w p u B hp)).trans h.2.2⟩
/-- How two of the spans lie. -/
def wayL (i j : Nat) : Nat := Sp.way (lo i) (hi i) (lo j) (hi j)
theorem wayL_lt (i j : Nat) : wayL i j < 13 := Sp.way_lt _ _ _ _
/-- Three spans that have been passed tell the way v of p and q. -/
def TabP (I J K : Nat) (p q : Nat) (v : Nat) : Prop := ∃ i j k : Nat, i < 15 ∧ j < 15 ∧ k < 15 ∧ (i < I ∨ i = I ∧ (j < J ∨ j = J ∧ k < K)) ∧ wayL i j = p ∧ wayL j k = q ∧ wayL i k = v
def TabB (I J K : Nat) (f : Nat → Nat) : Prop := ∀ p q, p < 13 → q < 13 → Bits (f (p * 13 + q)) (TabP I J K p q)
theorem TabB.none {f : Nat → Nat} (h : ∀ i, f i = 0) : TabB 0 0 0 f := fun p q _ _ => by
  rw [h]
  refine Bits.none ?_
  rintro v _ ⟨i, j, k, _, _, _, h, _⟩
  omega
theorem TabB.step {I J K : Nat} {f : Nat → Nat} (h : TabB I J K f) (hI : I < 15) (hJ : J < 15) (hK : K < 15) : TabB I J (K + 1) (fun n => if n = wayL I J * 13 + wayL J K then f n ||| 2 ^ wayL I K else f n) := by
  intro p q hp hq
  have hx := wayL_lt I J
  have hy := wayL_lt J K
  by_cases e : p * 13 + q = wayL I J * 13 + wayL J K
  · have e1 : p = wayL I J := by omega
    have e2 : q = wayL J K := by omega
    subst e1; subst e2
    simp only [if_true]
    refine ((h _ _ hp hq).add (wayL_lt I K)).congr fun v _ => ⟨?_, ?_⟩
    · rintro (⟨i, j, k, h1, h2, h3, h4, h5⟩ | rfl)
      · exact ⟨i, j, k, h1, h2, h3, by omega, h5⟩
      · exact ⟨I, J, K, hI, hJ, hK, by omega, rfl, rfl, rfl⟩
    · rintro ⟨i, j, k, h1, h2, h3, h4, h5, h6, h7⟩
      by_cases e : i = I ∧ j = J ∧ k = K
      · obtain ⟨rfl, rfl, rfl⟩ := e; exact .inr h7
      · exact .inl ⟨i, j, k, h1, h2, h3, by omega, h5, h6, h7⟩
  · simp only [e, if_false]
    refine (h p q hp hq).congr fun v _ => ⟨?_, ?_⟩
    · rintro ⟨i, j, k, h1, h2, h3, h4, h5⟩
      exact ⟨i, j, k, h1, h2, h3, by omega, h5⟩
    · rintro ⟨i, j, k, h1, h2, h3, h4, h5, h6, h7⟩
      by_cases e2 : i = I ∧ j = J ∧ k = K
      · obtain ⟨rfl, rfl, rfl⟩ := e2; subst h5; subst h6; exact absurd rfl e
      · exact ⟨i, j, k, h1, h2, h3, by omega, h5, h6, h7⟩
theorem TabB.row {I J : Nat} {f : Nat → Nat} (h : TabB I J 15 f) : TabB I (J + 1) 0 f := fun p q hp hq => (h p q hp hq).congr fun v _ =>
  ⟨fun ⟨i, j, k, h1, h2, h3, h4, h5⟩ => ⟨i, j, k, h1, h2, h3, by omega, h5⟩, fun ⟨i, j, k, h1, h2, h3, h4, h5⟩ => ⟨i, j, k, h1, h2, h3, by omega, h5⟩⟩
theorem TabB.sheet {I : Nat} {f : Nat → Nat} (h : TabB I 15 0 f) : TabB (I + 1) 0 0 f := fun p q hp hq => (h p q hp hq).congr fun v _ =>
  ⟨fun ⟨i, j, k, h1, h2, h3, h4, h5⟩ => ⟨i, j, k, h1, h2, h3, by omega, h5⟩, fun ⟨i, j, k, h1, h2, h3, h4, h5⟩ => ⟨i, j, k, h1, h2, h3, by omega, h5⟩⟩
theorem tab_full {s p q : Nat} (h : Bits s (TabP 15 0 0 p q)) (hp : p < 13) (hq : q < 13) : s = Sp.tab p q := by
  refine h.tab hp hq ?_ ?_
  · rintro v _ ⟨i, j, k, _, _, _, _, h5, h6, h7⟩
    have := Sp.sound (lo i) (hi i) (lo j) (hi j) (lo k) (hi k) (by have := (lohi i).1; omega) (by have := (lohi j).1; omega) (by have := (lohi k).1; omega)
    unfold wayL at h5 h6 h7
    rw [h5, h6, h7] at this
    exact this
  · intro v hv h
    obtain ⟨a, b, c, d, e, f, h1, h2, h3, h4, h5, h6, h7, h8, h9⟩ := Sp.full5 p q v hp hq hv h
    obtain ⟨i, hi1, rfl, rfl⟩ := pos_find a b h1 h2
    obtain ⟨j, hj1, rfl, rfl⟩ := pos_find c d h3 h4
    obtain ⟨k, hk1, rfl, rfl⟩ := pos_find e f h5 h6
    exact ⟨i, j, k, hi1, hj1, hk1, by omega, h7, h8, h9⟩
end Go.Proofs.YtpmppgmnnnlonaaDoor
