/- Ends told by their ranks. -/
import Derived.Test.YtpmppgmnnnlonaaDoorSolA
namespace Go.Proofs.YtpmppgmnnnlonaaDoor
open Go.RowKit
/-- How many of the ends lie ahead of one. -/
def rank (E : List Int) (e : Int) : Nat := E.countP fun a => decide (a < e)
theorem rank_le {E : List Int} {a b : Int} (h : a ≤ b) : rank E a ≤ rank E b := by
  refine List.countP_mono_left fun x _ hx => ?_
  simp only [decide_eq_true_eq] at hx ⊢
  omega
theorem rank_lt : ∀ {E : List Int} {a b : Int}, a ∈ E → a < b → rank E a < rank E b := by
  intro E
  induction E with
  | nil => intro a b h _; simp at h
  | cons x E ih =>
    intro a b h hab
    have hle := rank_le (E := E) (Int.le_of_lt hab)
    unfold rank at *
    rw [List.countP_cons, List.countP_cons]
    rcases List.mem_cons.1 h with rfl | h
    · simp only [Int.lt_irrefl, decide_false, decide_eq_true hab, if_true]
      simp
      omega
    · have := ih h hab
      by_cases h1 : x < a
      · have h2 : x < b := by omega
        simp only [decide_eq_true h1, decide_eq_true h2, if_true]; omega
      · simp only [decide_eq_false h1]
        simp
        omega
theorem rank_top {E : List Int} {a : Int} (h : a ∈ E) : rank E a < E.length := by
  refine Nat.lt_of_lt_of_le (rank_lt h (show a < a + 1 by omega)) ?_
  exact List.countP_le_length
theorem rank_iff {E : List Int} {a b : Int} (ha : a ∈ E) (hb : b ∈ E) : (rank E a < rank E b ↔ a < b) ∧ (rank E a = rank E b ↔ a = b) := by
  have h1 := fun h => rank_lt (b := b) ha h
  have h2 := fun h => rank_lt (b := a) hb h
  rcases Int.lt_trichotomy a b with h | h | h
  · have := h1 h; omega
  · subst h; omega
  · have := h2 h; omega
theorem rank_int {E : List Int} {a b : Int} (ha : a ∈ E) (hb : b ∈ E) : (((rank E a : Nat) : Int) < ((rank E b : Nat) : Int) ↔ a < b) ∧ (((rank E a : Nat) : Int) = ((rank E b : Nat) : Int) ↔ a = b) := by
  obtain ⟨h1, h2⟩ := rank_iff ha hb
  exact ⟨⟨fun h => h1.1 (by omega), fun h => by have := h1.2 h; omega⟩, ⟨fun h => h2.1 (by omega), fun h => by have := h2.2 h; omega⟩⟩
theorem way_rank {E : List Int} {a b c d : Int} (ha : a ∈ E) (hb : b ∈ E) (hc : c ∈ E) (hd : d ∈ E) : Sp.way (rank E a : Nat) (rank E b : Nat) (rank E c : Nat) (rank E d : Nat) = Sp.way a b c d := by
  unfold Sp.way
  simp only [(rank_int hb hc).1, (rank_int hb hc).2, (rank_int hd ha).1, (rank_int hd ha).2, (rank_int ha hc).1, (rank_int ha hc).2, (rank_int hb hd).1, (rank_int hb hd).2]
/-- Spans that lie as a net says: some of small ends do so too, in the same ways. -/
theorem ranked {n : Nat} {N : Nat → Nat → Nat} {x y : Nat → Int} (hv : ∀ i, i < n → x i < y i) (hN : ∀ i k, i < n → k < n → (N i k).testBit (Sp.way (x i) (y i) (x k) (y k)) = true) : ∃ t : List Pr, t.length = n ∧ (∀ i, i < n → Cand n (t.getD i pD)) ∧ AllN n N t ∧ ∀ i k, i < n → k < n → wayP (t.getD i pD) (t.getD k pD) = Sp.way (x i) (y i) (x k) (y k) := by
  obtain ⟨E, hE⟩ : ∃ E, (List.range n).map x ++ (List.range n).map y = E := ⟨_, rfl⟩
  have hx : ∀ i, i < n → x i ∈ E := fun i hi => by rw [← hE]; exact List.mem_append_left _ (List.mem_map.2 ⟨i, List.mem_range.2 hi, rfl⟩)
  have hy : ∀ i, i < n → y i ∈ E := fun i hi => by rw [← hE]; exact List.mem_append_right _ (List.mem_map.2 ⟨i, List.mem_range.2 hi, rfl⟩)
  have hl : E.length = 2 * n := by rw [← hE]; simp; omega
  have hat : ∀ i, i < n → ((List.range n).map fun i => ((rank E (x i), rank E (y i)) : Pr)).getD i pD = (rank E (x i), rank E (y i)) := fun i hi => by simp [List.getD, hi]
  have hw : ∀ i k, i < n → k < n → wayP (((List.range n).map fun i => ((rank E (x i), rank E (y i)) : Pr)).getD i pD) (((List.range n).map fun i => ((rank E (x i), rank E (y i)) : Pr)).getD k pD) = Sp.way (x i) (y i) (x k) (y k) := fun i k hi hk => by
    rw [hat i hi, hat k hk]
    exact way_rank (hx i hi) (hy i hi) (hx k hk) (hy k hk)
  refine ⟨(List.range n).map fun i => (rank E (x i), rank E (y i)), by simp, fun i hi => ?_, fun i k hi hk => ?_, hw⟩
  · rw [hat i hi]
    exact ⟨rank_lt (hx i hi) (hv i hi), by have := rank_top (hy i hi); show rank E (y i) < 2 * n; omega⟩
  · rw [hw i k hi hk]; exact hN i k hi hk
section
variable {n : Nat} {N T : Nat → Nat → Nat} {x y : Nat → Int}
/-- What holds of a net is within its closure. -/
theorem close_keeps (hv : ∀ i, i < n → x i < y i) (hN : ∀ i k, i < n → k < n → (N i k).testBit (Sp.way (x i) (y i) (x k) (y k)) = true) (hT : TopP n N T) : ∀ i k, i < n → k < n → (T i k).testBit (Sp.way (x i) (y i) (x k) (y k)) = true := by
  obtain ⟨t, _, h2, h3, h4⟩ := ranked hv hN
  intro i k hi hk
  rw [← h4 i k hi hk]
  refine hT.2 _ (ways_good h2 h3) i k hi hk _ (wayP_lt _ _) ?_
  rw [Nat.testBit_two_pow]; simp
theorem bit_pos {a v : Nat} (h : a.testBit v = true) : a ≠ 0 := by
  rintro rfl; simp at h
/-- Where a net holds of spans, the search finds some. -/
theorem solve_keeps (hS : SmallX n N) (hv : ∀ i, i < n → x i < y i) (hN : ∀ i k, i < n → k < n → (N i k).testBit (Sp.way (x i) (y i) (x k) (y k)) = true) (hT : TopP n N T) : ¬ IsF n (accP T) n [] none := by
  obtain ⟨t, h1, h2, h3, _⟩ := ranked hv hN
  have hz : ∀ i k, i < n → k < n → T i k ≠ 0 := fun i k hi hk => bit_pos (close_keeps hv hN hT i k hi hk)
  exact fun h => isF_none _ _ h t h1 ((extP_iff hS hT hz h1).2 ⟨h2, h3⟩)
/-- What the search finds lies as the net says. -/
theorem solve_holds (hS : SmallX n N) (hT : TopP n N T) (hz : ∀ i k, i < n → k < n → T i k ≠ 0) {t : List Pr} (h : IsF n (accP T) n [] (some t)) : t.length = n ∧ (∀ i, i < n → Cand n (t.getD i pD)) ∧ AllN n N t := by
  obtain ⟨h1, h2, _⟩ := isF_some _ _ _ h
  exact ⟨h1, (extP_iff hS hT hz h1).1 h2⟩
end
end Go.Proofs.YtpmppgmnnnlonaaDoor
