/- The round that comes back: the program's search, by a contract. -/
import Derived.Test.YtajnpdaljocnnaaDoorMayaA
namespace Go.Proofs.YtajnpdaljocnnaaDoor
open Go.RowKit
/-- The search for a day's round: x the day, k rounds of the loop left. -/
def nrGo (a b c e : Int) (x : Int) : Nat → Int × Int
  | 0 => (0, 12)
  | k + 1 => if 4000000 < x then (0, 4) else if r0 x = a ∧ r1 x = b ∧ r2 x = c ∧ r3 x = e then (x, 0) else nrGo a b c e (x + 1) k
def nr (a b c e f : Int) : Int × Int := nrGo a b c e f 18980
def nrRel (a b c e f : Int) (k : Nat) : Prop := nrGo a b c e f 18980 = nrGo a b c e (f + k) (18980 - k)
theorem nrRel_0 (a b c e f : Int) : nrRel a b c e f 0 := by simp [nrRel]
theorem nrRel_step {a b c e f : Int} {k : Nat} (h : nrRel a b c e f k) (hk : k < 18980) (hm : f + k ≤ 4000000) (hn : ¬ (r0 (f + k) = a ∧ r1 (f + k) = b ∧ r2 (f + k) = c ∧ r3 (f + k) = e)) : nrRel a b c e f (k + 1) := by
  unfold nrRel at *
  rw [h]
  obtain ⟨j, hj⟩ : ∃ j, 18980 - k = j + 1 := ⟨18980 - k - 1, by omega⟩
  rw [hj, nrGo, if_neg (by omega), if_neg hn, show 18980 - (k + 1) = j by omega, show f + (k : Int) + 1 = f + ((k + 1 : Nat) : Int) by omega]
theorem nrRel_hit {a b c e f : Int} {k : Nat} (h : nrRel a b c e f k) (hk : k < 18980) (hm : f + k ≤ 4000000) (hn : r0 (f + k) = a ∧ r1 (f + k) = b ∧ r2 (f + k) = c ∧ r3 (f + k) = e) : nr a b c e f = (f + k, 0) := by
  unfold nrRel at h
  unfold nr
  rw [h]
  obtain ⟨j, hj⟩ : ∃ j, 18980 - k = j + 1 := ⟨18980 - k - 1, by omega⟩
  rw [hj, nrGo, if_neg (by omega), if_pos hn]
theorem nrRel_far {a b c e f : Int} {k : Nat} (h : nrRel a b c e f k) (hk : k < 18980) (hm : 4000000 < f + k) : nr a b c e f = (0, 4) := by
  unfold nrRel at h
  unfold nr
  rw [h]
  obtain ⟨j, hj⟩ : ∃ j, 18980 - k = j + 1 := ⟨18980 - k - 1, by omega⟩
  rw [hj, nrGo, if_pos hm]
theorem nrRel_end {a b c e f : Int} (h : nrRel a b c e f 18980) : nr a b c e f = (0, 12) := h
set_option maxRecDepth 100000 in
set_option maxHeartbeats 1000000 in
theorem next_in (a b c e from_ : Int) (w : World) (h1 : -1856305 ≤ from_) (h2 : from_ ≤ 4000000) : Calls Tryd.prog 40 #[.agg #[.int .i64 a, .int .i64 b, .int .i64 c, .int .i64 e], .int .i64 from_] w fun en w' => en = .returned (.tuple #[.int .i64 (nr a b c e from_).1, errV (nr a b c e from_).2]) ∧ Below w.heap.size w w' := by
  have hA : decide (from_ < -1856305) = false := by simp; omega
  have hB : decide (4000000 < from_) = false := by simp; omega
  go_enter Tryd.func40, Tryd.ntmps40
  go_wp2_with fail
  go_loopw [16] (fun i wr => ∃ k : Nat, k ≤ 18980 ∧ i = .int .i64 k ∧ nrRel a b c e from_ k ∧ Below w.heap.size w wr ∧ Hid (Below (w.heap.size + 1) (w.alloc (.cells #[.int .i64 a, .int .i64 b, .int .i64 c, .int .i64 e] 23)) wr)) (fun i _ => 18980 - (intOf i).toNat)
  case atStart => exact ⟨0, by omega, rfl, nrRel_0 _ _ _ _ _, Below.alloc (Below.refl _ _) (Nat.le_refl _) _, Lib.hid (Below.refl _ _)⟩
  case round =>
    obtain ⟨k, hk, rfl, HR, hW, HW⟩ := hrel
    have HW1 := Lib.hid hW; clear hW
    have hz := HW.out.size
    simp only [World.size_alloc] at hz
    have qa : ∀ o, wr.cell? ⟨w.heap.size, o, none⟩ = (w.alloc (.cells #[.int .i64 a, .int .i64 b, .int .i64 c, .int .i64 e] 23)).cell? ⟨w.heap.size, o, none⟩ := fun o => HW.out.cell (p := ⟨w.heap.size, o, none⟩) (by simp)
    by_cases hlt : k < 18980
    · by_cases hm : from_ + k ≤ 4000000
      · go_wp2_with fail
        refine (maya_yes _ _ (by omega) (by omega)).mono ?_; rintro en w1 ⟨rfl, hb1⟩
        rw [errV_nil]; unfold mayaV
        have hz1 := hb1.size
        have HB1 := Lib.hid hb1; clear hb1
        have q1 : ∀ o, w1.cell? ⟨w.heap.size, o, none⟩ = wr.cell? ⟨w.heap.size, o, none⟩ := fun o => HB1.out.cell (p := ⟨w.heap.size, o, none⟩) hz
        have hs1 : w.heap.size < w1.heap.size := by omega
        go_wp2_with fail
        all_goals first
          | (refine ⟨⟨k + 1, by omega, by go_num, nrRel_step HR hlt hm (fun hh => by first | exact absurd hh.1 (by assumption) | exact absurd hh.2.1 (by assumption) | exact absurd hh.2.2.1 (by assumption) | exact absurd hh.2.2.2 (by assumption)), ?_, ?_⟩, by simp [intOf]; omega⟩
             · exact (HW1.out.trans (HB1.out.mono (by omega))).alloc (by omega) _
             · exact Lib.hid ((HW.out.trans (HB1.out.mono (by omega))).alloc (by omega) _))
          | (go_ret2
             have hr := nrRel_hit HR hlt hm ⟨by assumption, by assumption, by assumption, by assumption⟩
             exact ⟨ret2 (by rw [hr]) (by rw [hr]; rfl), (HW1.out.trans (HB1.out.mono (by omega))).alloc (by omega) _⟩)
      · go_wp2_with fail
        refine (maya_no _ _ (by omega)).mono ?_; rintro en w1 ⟨rfl, hb1⟩
        rw [errV_hit (by decide)]; unfold mayaZ
        have HB1 := Lib.hid hb1; clear hb1
        have hz1 := HB1.out.size
        go_wp2_with fail
        go_ret2
        have hr := nrRel_far HR hlt (by omega)
        exact ⟨ret2 (by rw [hr]) (by rw [hr]; rfl), (HW1.out.trans (HB1.out.mono (by omega))).alloc (by omega) _⟩
    · obtain rfl : k = 18980 := by omega
      go_wp2_with fail
      go_ret2
      have hr := nrRel_end HR
      exact ⟨ret2 (by rw [hr]) (by rw [hr]; rfl), HW1.out⟩
def nrT (a b c e f : Int) : Int × Int := if -1856305 ≤ f ∧ f ≤ 4000000 then nr a b c e f else (0, 4)
set_option maxHeartbeats 1000000 in
theorem next_out (a b c e f : Int) (w : World) (h : f < -1856305 ∨ 4000000 < f) : Calls Tryd.prog 40 #[.agg #[.int .i64 a, .int .i64 b, .int .i64 c, .int .i64 e], .int .i64 f] w fun en w' => en = .returned (.tuple #[.int .i64 0, errV 4]) ∧ Below w.heap.size w w' := by
  rcases h with h | h
  · go_enter Tryd.func40, Tryd.ntmps40
    go_wp2_with fail
    go_ret2
    exact ⟨rfl, by repeat (first | with_reducible exact Below.refl _ _ | (with_reducible refine Below.alloc ?_ (by simp <;> omega) _))⟩
  · have h' : ¬ f < -1856305 := by omega
    go_enter Tryd.func40, Tryd.ntmps40
    go_wp2_with fail
    go_ret2
    exact ⟨rfl, by repeat (first | with_reducible exact Below.refl _ _ | (with_reducible refine Below.alloc ?_ (by simp <;> omega) _))⟩
theorem next_any (a b c e f : Int) (w : World) : Calls Tryd.prog 40 #[.agg #[.int .i64 a, .int .i64 b, .int .i64 c, .int .i64 e], .int .i64 f] w fun en w' => en = .returned (.tuple #[.int .i64 (nrT a b c e f).1, errV (nrT a b c e f).2]) ∧ Below w.heap.size w w' := by
  unfold nrT
  by_cases h : -1856305 ≤ f ∧ f ≤ 4000000
  · rw [if_pos h]; exact next_in a b c e f w h.1 h.2
  · rw [if_neg h]; exact next_out a b c e f w (by omega)
end Go.Proofs.YtajnpdaljocnnaaDoor
