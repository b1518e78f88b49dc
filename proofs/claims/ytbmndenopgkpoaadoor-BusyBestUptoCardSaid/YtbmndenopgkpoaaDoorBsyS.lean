/- slices.Sort and slices.Compact over a list of the call's own. -/
import Derived.Test.YtbmndenopgkpoaaDoorBsyI
import Derived.Test.YtbmndenopgkpoaaDoorBsyLay
import Derived.Lib.RowBridge
namespace Go.Proofs.YtbmndenopgkpoaaDoor
open Go.RowKit Wrk Go.Sort
theorem own_prefix {w : World} {base g n cap m : Nat} {e : TypeId} {xs : List Value} (h : w.ownsRow base e 1 (.slice (some ⟨g, 0, none⟩) n cap) n xs) (hm : m ≤ n) : w.ownsRow base e 1 (.slice (some ⟨g, 0, none⟩) m cap) m (xs.take m) := by
  obtain ⟨h1, h2⟩ := h
  rcases h2 with ⟨h2, -⟩ | ⟨g', cap', cur, h3, h4, h5, h6, h7, h8, h9⟩
  · cases h2
  · cases h3
    refine ⟨by rw [List.length_take]; omega, .inr ⟨g, cap, cur, rfl, h4, h5, by omega, h7, h8, ?_⟩⟩
    rw [← h9, List.take_take]
    congr 1
    omega
set_option maxHeartbeats 4000000 in
theorem sort_any (v : Value) (l : List Int) (base : Nat) (w : World) (h : IntL w base v l) (hl : l.length ≤ 100000000) :
    Calls Tryd.prog 34 #[v] w fun e w' => e = .returned (.tuple #[]) ∧ IntL w' base v (l.mergeSort fun x y => decide (x ≤ y)) ∧ w.grownBy w' v.ownBlock := by
  unfold IntL at h
  rcases h.2 with ⟨rfl, h0⟩ | ⟨g, cap, cur, rfl, hb, hg, hn, hcm, hcs, htk⟩
  · have hl0 : l = [] := List.eq_nil_of_length_eq_zero h0
    subst hl0
    refine (Any.slices_Sort_int_none laySo none 0 w).mono ?_
    rintro e w' ⟨rfl, rfl⟩
    exact ⟨rfl, by simpa using IntL.nil _ _, ⟨rfl, rfl, rfl, Nat.le_refl _, fun _ _ _ => rfl⟩⟩
  · have hH := holds_of_blockI (ss := l) hg (by rw [Nat.mul_one] at htk; exact htk)
    have hgl : g < w.heap.size := (Array.getElem?_eq_some_iff.1 hg).1
    refine (Any.slices_Sort_int laySo g 0 cap l w hH hgl (by omega)).mono ?_
    rintro e w' ⟨rfl, n, os, rfl⟩
    have hlen : (l.mergeSort fun x y => decide (x ≤ y)).length = l.length := List.length_mergeSort l
    refine ⟨rfl, ?_, grownBy_sortedI _⟩
    unfold IntL
    rw [hlen]
    exact ownsRow_sortedI (ss := l) hlen hb hg hn hcm hcs
set_option maxHeartbeats 4000000 in
theorem compact_any (v : Value) (l : List Int) (base : Nat) (w : World) (h : IntL w base v l) (hl : l.length ≤ 100000000) :
    Calls Tryd.prog 35 #[v] w fun e w' => ∃ v', e = .returned v' ∧ IntL w' base v' (Lib.compact l) ∧ w.grownBy w' v.ownBlock := by
  unfold IntL at h
  rcases h.2 with ⟨rfl, h0⟩ | ⟨g, cap, cur, rfl, hb, hg, hn, hcm, hcs, htk⟩
  · have hl0 : l = [] := List.eq_nil_of_length_eq_zero h0
    subst hl0
    refine (Any.slices_Compact_int_empty layCo none 0 w).mono ?_
    rintro e w' ⟨rfl, rfl⟩
    exact ⟨_, rfl, IntL.nil _ _, ⟨rfl, rfl, rfl, Nat.le_refl _, fun _ _ _ => rfl⟩⟩
  · have hH := holds_of_blockI (ss := l) hg (by rw [Nat.mul_one] at htk; exact htk)
    refine (Any.slices_Compact_int layCo g 0 cap l w hH (by omega) hn).mono ?_
    rintro e w' ⟨rfl, q, rfl⟩
    obtain ⟨c, hc⟩ : ∃ c, Lib.compact l = c := ⟨_, rfl⟩
    have hcl : c.length ≤ l.length := by rw [← hc]; exact Lib.compact_length_le l
    rw [hc]
    have hlen : (c ++ List.replicate (l.length - c.length) 0).length = l.length := by simp; omega
    have h1 := ownsRow_sortedI (ss := l) (os := #[]) (n := q) (w := w) (e := 3) (base := base) hlen hb hg hn hcm hcs
    have h2 := own_prefix h1 hcl
    rw [grow_empty] at h2
    refine ⟨_, rfl, ?_, ?_⟩
    · unfold IntL intV
      have e : (List.map (Value.int .i64) (c ++ List.replicate (l.length - c.length) 0)).take c.length = List.map (Value.int .i64) c := by rw [List.map_append, List.take_left' (by simp)]
      rw [e] at h2
      exact h2
    · have h3 := grownBy_sortedI (w := w) (g := g) (n := q) (os := #[]) (c ++ List.replicate (l.length - c.length) 0).toArray
      rw [grow_empty] at h3
      exact h3
end Go.Proofs.YtbmndenopgkpoaaDoor
