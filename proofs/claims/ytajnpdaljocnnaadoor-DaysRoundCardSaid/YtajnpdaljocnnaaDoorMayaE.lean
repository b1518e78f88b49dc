/- The law DaysRound: the round of 18,980 days, in plain numbers and walked. -/
import Derived.Test.YtajnpdaljocnnaaDoorMayaD
namespace Go.Proofs.YtajnpdaljocnnaaDoor
open Go.RowKit
theorem lcm_all {i : Int} (a1 : i % 365 = 0) (a2 : i % 13 = 0) (a3 : i % 20 = 0) : i % 18980 = 0 := by
  obtain ⟨a, rfl⟩ : ∃ a, i = 365 * a := ⟨i / 365, by omega⟩
  have b1 : a % 13 = 0 := by clear a1 a3; omega
  obtain ⟨b, rfl⟩ : ∃ b, a = 13 * b := ⟨a / 13, by omega⟩
  have c1 : b % 4 = 0 := by clear a1 a2 b1; omega
  clear a1 a2 a3 b1
  omega
theorem hd_eq {d d' : Int} (h0 : r0 d' = r0 d) (h1 : r1 d' = r1 d) : hd d' = hd d := by
  unfold r0 at h0
  unfold r1 at h1
  omega
theorem hd_mod {d i : Int} (h : hd (d + i) = hd d) : i % 365 = 0 := by unfold hd at h; omega
theorem r2_mod {d i : Int} (h : r2 (d + i) = r2 d) : i % 13 = 0 := by unfold r2 at h; omega
theorem r3_mod {d i : Int} (h : r3 (d + i) = r3 d) : i % 20 = 0 := by unfold r3 at h; omega
theorem rounds_mod {d i : Int} (h : r0 (d + i) = r0 d ∧ r1 (d + i) = r1 d ∧ r2 (d + i) = r2 d ∧ r3 (d + i) = r3 d) : i % 18980 = 0 :=
  lcm_all (hd_mod (hd_eq h.1 h.2.1)) (r2_mod h.2.2.1) (r3_mod h.2.2.2)
theorem rounds_back (d : Int) : r0 (d + 18980) = r0 d ∧ r1 (d + 18980) = r1 d ∧ r2 (d + 18980) = r2 d ∧ r3 (d + 18980) = r3 d := by
  have e : hd (d + 18980) = hd d := by unfold hd; omega
  unfold r0 r1 r2 r3
  rw [e]
  exact ⟨rfl, rfl, by omega, by omega⟩
theorem nr_self (d : Int) (h2 : d ≤ 4000000) : nr (r0 d) (r1 d) (r2 d) (r3 d) d = (d, 0) := by
  have := nrRel_hit (nrRel_0 (r0 d) (r1 d) (r2 d) (r3 d) d) (by omega) (by omega) (by simp)
  simpa using this
theorem nr_steps (d : Int) (h2 : d + 18980 ≤ 4000000) (k : Nat) (hk : k ≤ 18979) : nrRel (r0 d) (r1 d) (r2 d) (r3 d) (d + 1) k := by
  induction k with
  | zero => exact nrRel_0 _ _ _ _ _
  | succ k ih =>
    refine nrRel_step (ih (by omega)) (by omega) (by omega) (fun hh => ?_)
    have e : d + 1 + (k : Int) = d + (1 + (k : Int)) := by omega
    rw [e] at hh
    have := rounds_mod hh
    omega
theorem nr_next (d : Int) (h2 : d + 18980 ≤ 4000000) : nr (r0 d) (r1 d) (r2 d) (r3 d) (d + 1) = (d + 18980, 0) := by
  have e : d + 1 + ((18979 : Nat) : Int) = d + 18980 := by omega
  have h := nrRel_hit (nr_steps d h2 18979 (by omega)) (by omega) (by omega) (by rw [e]; exact rounds_back d)
  rw [h, e]
theorem nrT_self (d : Int) (h1 : -1856305 ≤ d) (h2 : d ≤ 4000000) : nrT (r0 d) (r1 d) (r2 d) (r3 d) d = (d, 0) := by
  rw [nrT, if_pos ⟨h1, h2⟩, nr_self d h2]
theorem nrT_next (d : Int) (h1 : -1856305 ≤ d) (h2 : d + 18980 ≤ 4000000) : nrT (r0 d) (r1 d) (r2 d) (r3 d) (d + 1) = (d + 18980, 0) := by
  rw [nrT, if_pos ⟨by omega, by omega⟩, nr_next d h2]
theorem mayaR_yes (d : Int) (h : -1856305 ≤ d ∧ d ≤ 4000000) : mayaR d = mayaV d := if_pos h
theorem mayaE_yes (d : Int) (h : -1856305 ≤ d ∧ d ≤ 4000000) : mayaE d = 0 := if_pos h
theorem mayaE_no (d : Int) (h : ¬ (-1856305 ≤ d ∧ d ≤ 4000000)) : mayaE d = 4 := if_neg h

set_option maxRecDepth 100000 in
set_option maxHeartbeats 2000000 in
theorem daysRound_walk (day : Int) (w : World) (hT : ErrT w) :
    Calls Tryd.prog 4 #[.int .i64 day] w fun en w' => en = .returned (.bool true) ∧ Below w.heap.size w w' := by
  have hlt := hT.lt
  have HT : Hid (ErrT w) := Lib.hid hT; clear hT
  by_cases hin : -1856305 ≤ day ∧ day ≤ 4000000
  · have hA := mayaR_yes day hin
    have hB := mayaE_yes day hin
    have HAB := Lib.hid (And.intro hA hB); clear hA hB
    obtain ⟨h1, h2⟩ := hin
    have hS := nrT_self day h1 h2
    have HS := Lib.hid hS; clear hS
    go_enter Tryd.func4, Tryd.ntmps4
    go_wp2_with fail
    refine (plainMaya _ _ HT.out).mono ?_; rintro en w1 ⟨rfl, hb1⟩
    rw [HAB.out.1, HAB.out.2]; unfold mayaV
    have hT1 : Hid (ErrT w1) := Lib.hid (HT.out.call hb1)
    have HB1 := Lib.hid hb1; clear hb1
    go_wp2_with fail
    refine (plainNext _ _ _ _ _ _ (ErrT.alloc hT1.out _)).mono ?_; rintro en w2 ⟨rfl, hb2⟩
    rw [HS.out]
    have hT2 : Hid (ErrT w2) := Lib.hid ((ErrT.alloc hT1.out _).call hb2)
    have hz2 := hb2.size
    simp only [World.size_alloc] at hz2
    obtain ⟨q2, p2⟩ := carry hb2 w1.heap.size (by first | omega | (simp <;> omega))
    have HB2 := Lib.hid (thenB HB1.out (offA hb2)); clear hb2
    by_cases hn : day + 18980 ≤ 4000000
    · have HN := Lib.hid (nrT_next day h1 hn)
      go_wp2_with fail
      refine (plainNext _ _ _ _ _ _ hT2.out).mono ?_; rintro en w3 ⟨rfl, hb3⟩
      rw [HN.out]
      have HB3 := Lib.hid (thenB HB2.out hb3); clear hb3
      go_wp2_with fail
      go_ret
      exact ⟨rfl, HB3.out⟩
    · have hn' : 4000000 < day + 18980 := by omega
      go_wp2_with fail
      go_ret
      exact ⟨rfl, HB2.out⟩
  · have hB := mayaE_no day hin
    obtain ⟨m0, m1, m2, m3, m4, m5, m6, m7, m8, hm⟩ := mayaR_agg day
    have HAB := Lib.hid (And.intro hm hB); clear hm hB hin
    go_enter Tryd.func4, Tryd.ntmps4
    go_wp2_with fail
    refine (plainMaya _ _ HT.out).mono ?_; rintro en w1 ⟨rfl, hb1⟩
    rw [HAB.out.1, HAB.out.2]
    have HB1 := Lib.hid hb1; clear hb1
    go_wp2_with fail
    go_ret
    exact ⟨rfl, HB1.out.alloc HB1.out.size _⟩
end Go.Proofs.YtajnpdaljocnnaaDoor
