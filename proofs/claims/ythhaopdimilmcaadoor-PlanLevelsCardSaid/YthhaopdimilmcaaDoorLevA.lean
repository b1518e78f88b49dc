/- How much of a resource a task uses; the leveller in memory. -/
import Derived.Test.YthhaopdimilmcaaDoorPlnL
namespace Go.Proofs.YthhaopdimilmcaaDoor
open Go.RowKit
def Plan.use (T : Plan) (i r : Nat) : Int := if i < T.n ∧ r < T.uc i then T.us i r else 0
theorem Plan.use_lt {T : Plan} {i : Nat} (h : i < T.n) (r : Nat) : T.use i r = if r < T.uc i then T.us i r else 0 := by
  unfold Plan.use; simp [h]
set_option maxHeartbeats 2000000 in
theorem use_any (L Nb : Int) (al : Option Addr) (lc cl : Nat) (au : Option Addr) (uc cu r : Nat) (u : Nat → Int) (w : World) (hU : IntsR w au uc u) :
    Calls Tryd.prog 65 #[.agg #[.int .i64 L, .int .i64 Nb, .slice al lc cl, .slice au uc cu], .int .i64 (r : Int)] w fun e w' => e = .returned (.int .i64 (if r < uc then u r else 0)) ∧ Below w.heap.size w w' := by
  have HB := Lib.hid (Below.alloc (Below.refl w.heap.size w) (Nat.le_refl _) (.cells #[.int .i64 L, .int .i64 Nb, .slice al lc cl, .slice au uc cu] 34))
  by_cases h : r < uc
  · rw [if_pos h]
    obtain ⟨b, rfl⟩ := hU.1 (by omega)
    have hc := hU.at h
    have hbl := World.block_lt_of_cell? _ _ hc
    obtain ⟨U, hUE⟩ : ∃ x, u r = x := ⟨_, rfl⟩
    rw [hUE] at hc ⊢
    have hd : decide ((uc : Int) ≤ (r : Int)) = false := decide_eq_false (by omega)
    have r1 : (0 : Int) ≤ (r : Int) := by omega
    have r2 : (r : Int) < (uc : Int) := by omega
    clear hU hUE
    go_enter Tryd.func65, Tryd.ntmps65
    go_wp2_with fail
    go_ret
    exact ⟨rfl, HB.out⟩
  · rw [if_neg h]
    have hd : decide ((uc : Int) ≤ (r : Int)) = true := decide_eq_true (by omega)
    clear hU
    go_enter Tryd.func65, Tryd.ntmps65
    go_wp2_with fail
    go_ret
    exact ⟨rfl, HB.out⟩
/-- The leveller: a box of four slices: the plan, what there is, the spans, which tasks are in. -/
def LevB (w : World) (K : Nat) (oa : Option Addr) (n cap : Nat) (oh : Option Addr) (hn hc B I : Nat) : Prop :=
  K < w.heap.size ∧ w.cell? ⟨K, 0, none⟩ = some (.slice oa n cap) ∧ w.cell? ⟨K, 1, none⟩ = some (.slice oh hn hc) ∧ w.cell? ⟨K, 2, none⟩ = some (.slice (some ⟨B, 0, none⟩) n n) ∧ w.cell? ⟨K, 3, none⟩ = some (.slice (some ⟨I, 0, none⟩) n n)
theorem LevB.call {w w' : World} {K : Nat} {oa : Option Addr} {n cap : Nat} {oh : Option Addr} {hn hc B I : Nat} (h : LevB w K oa n cap oh hn hc B I) (hb : Below w.heap.size w w') : LevB w' K oa n cap oh hn hc B I :=
  ⟨Nat.lt_of_lt_of_le h.1 hb.size, (hb.cell (p := ⟨K, 0, none⟩) h.1).trans h.2.1, (hb.cell (p := ⟨K, 1, none⟩) h.1).trans h.2.2.1, (hb.cell (p := ⟨K, 2, none⟩) h.1).trans h.2.2.2.1, (hb.cell (p := ⟨K, 3, none⟩) h.1).trans h.2.2.2.2⟩
/-- The first end behind a time of a task that is in, or the time. -/
def laterF (f t : Nat → Int) (z : Nat → Bool) (x : Int) : Nat → Int
  | 0 => x
  | k + 1 => if z k = true ∧ x < t k ∧ (laterF f t z x k = x ∨ t k < laterF f t z x k) then t k else laterF f t z x k
theorem laterF_ways (f t : Nat → Int) (z : Nat → Bool) (x : Int) : ∀ k, (laterF f t z x k = x ∧ ∀ j, j < k → z j = true → t j ≤ x) ∨ (x < laterF f t z x k ∧ (∃ j, j < k ∧ z j = true ∧ t j = laterF f t z x k) ∧ ∀ j, j < k → z j = true → x < t j → laterF f t z x k ≤ t j) := by
  intro k
  induction k with
  | zero => exact .inl ⟨rfl, fun j hj => absurd hj (Nat.not_lt_zero j)⟩
  | succ k ih =>
    unfold laterF
    by_cases h : z k = true ∧ x < t k ∧ (laterF f t z x k = x ∨ t k < laterF f t z x k)
    · rw [if_pos h]
      refine .inr ⟨h.2.1, ⟨k, by omega, h.1, rfl⟩, fun j hj hz hx => ?_⟩
      by_cases e : j = k
      · subst e; exact Int.le_refl _
      · rcases ih with ⟨_, g2⟩ | ⟨g1, _, g3⟩
        · have := g2 j (by omega) hz; omega
        · have h4 := g3 j (by omega) hz hx
          rcases h.2.2 with h5 | h5
          · omega
          · omega
    · rw [if_neg h]
      rcases ih with ⟨g1, g2⟩ | ⟨g1, ⟨j, g2, g3, g4⟩, g5⟩
      · refine .inl ⟨g1, fun j hj hz => ?_⟩
        by_cases e : j = k
        · subst e
          refine Classical.byContradiction fun hn => h ⟨hz, by omega, .inl g1⟩
        · exact g2 j (by omega) hz
      · refine .inr ⟨g1, ⟨j, by omega, g3, g4⟩, fun i hi hz hx => ?_⟩
        by_cases e : i = k
        · subst e
          refine Classical.byContradiction fun hn => h ⟨hz, hx, .inr (by omega)⟩
        · exact g5 i (by omega) hz hx
end Go.Proofs.YthhaopdimilmcaaDoor
