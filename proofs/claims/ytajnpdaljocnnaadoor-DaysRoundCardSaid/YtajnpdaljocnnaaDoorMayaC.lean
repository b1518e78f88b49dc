/- The round that comes back: the search from outside, and the document's. -/
import Derived.Test.YtajnpdaljocnnaaDoorMayaB
namespace Go.Proofs.YtajnpdaljocnnaaDoor
open Go.RowKit
set_option maxHeartbeats 1000000 in
theorem plainNext (a b c e f : Int) (w : World) (hT : ErrT w) : Calls Tryd.prog 16 #[.agg #[.int .i64 a, .int .i64 b, .int .i64 c, .int .i64 e], .int .i64 f] w fun en w' => en = .returned (.tuple #[.int .i64 (nrT a b c e f).1, .int .i64 (nrT a b c e f).2]) ∧ Below w.heap.size w w' := by
  have hlt := hT.lt
  generalize hx : nrT a b c e f = x
  obtain ⟨x1, x2⟩ := x
  have HX := Lib.hid hx; clear hx
  have HT : Hid (ErrT w) := Lib.hid hT; clear hT
  go_enter Tryd.func16, Tryd.ntmps16
  go_wp2_with fail
  refine (next_any _ _ _ _ _ _).mono ?_; rintro en w1 ⟨rfl, hb1⟩
  rw [HX.out]
  have hT1 : Hid (ErrT w1) := Lib.hid ((ErrT.alloc HT.out _).call hb1)
  have HB := Lib.hid (offA hb1); clear hb1
  go_wp2_with fail
  refine (tell_any _ _ hT1.out).mono ?_; rintro en w2 ⟨rfl, hb2⟩
  have HB2 := Lib.hid (thenB HB.out hb2); clear hb2
  go_wp2_with fail
  go_ret2
  exact ⟨rfl, HB2.out⟩
set_option maxRecDepth 100000 in
set_option maxHeartbeats 1000000 in
theorem refNext_in (a b c e from_ : Int) (w : World) (h1 : -1856305 ≤ from_) (h2 : from_ ≤ 4000000) : Calls Tryd.prog 17 #[.agg #[.int .i64 a, .int .i64 b, .int .i64 c, .int .i64 e], .int .i64 from_] w fun en w' => en = .returned (.tuple #[.int .i64 (nr a b c e from_).1, .int .i64 (nr a b c e from_).2]) ∧ Below w.heap.size w w' := by
  go_enter Tryd.func17, Tryd.ntmps17
  go_wp2_with fail
  refine (refMaya_yes _ _ (by omega) (by omega)).mono ?_; rintro en w0 ⟨rfl, hb0⟩
  unfold mayaV
  have hz0 := hb0.size
  simp only [World.size_alloc] at hz0
  have HB0 := Lib.hid hb0; clear hb0
  go_wp2_with fail
  go_loopw [8] (fun i wr => ∃ k : Nat, k ≤ 18980 ∧ i = .int .i64 k ∧ nrRel a b c e from_ k ∧ Below w.heap.size w wr ∧ Hid (Below (w.heap.size + 1) (w.alloc (.cells #[.int .i64 a, .int .i64 b, .int .i64 c, .int .i64 e] 23)) wr)) (fun i _ => 18980 - (intOf i).toNat)
  case atStart => exact ⟨0, by omega, rfl, nrRel_0 _ _ _ _ _, (offA HB0.out).alloc (by omega) _, Lib.hid ((Below.mono HB0.out (by simp)).alloc (by omega) _)⟩
  case round =>
    obtain ⟨k, hk, rfl, HR, hW, HW⟩ := hrel
    have HW1 := Lib.hid hW; clear hW
    have hz := HW.out.size
    simp only [World.size_alloc] at hz
    have qa : ∀ o, wr.cell? ⟨w.heap.size, o, none⟩ = (w.alloc (.cells #[.int .i64 a, .int .i64 b, .int .i64 c, .int .i64 e] 23)).cell? ⟨w.heap.size, o, none⟩ := fun o => HW.out.cell (p := ⟨w.heap.size, o, none⟩) (by simp)
    by_cases hlt : k < 18980
    · by_cases hm : from_ + k ≤ 4000000
      · go_wp2_with fail
        refine (refMaya_yes _ _ (by omega) (by omega)).mono ?_; rintro en w1 ⟨rfl, hb1⟩
        unfold mayaV
        have hz1 := hb1.size
        have HB1 := Lib.hid hb1; clear hb1
        have q1 : ∀ o, w1.cell? ⟨w.heap.size, o, none⟩ = wr.cell? ⟨w.heap.size, o, none⟩ := fun o => HB1.out.cell (p := ⟨w.heap.size, o, none⟩) hz
        have hs1 : w.heap.size < w1.heap.size := by omega
        go_wp2_with fail
        all_goals first
          | (refine ⟨⟨k + 1, by omega, by go_num, nrRel_step HR hlt hm (fun hh => by first | exact absurd hh.1 (by assumption) | exact absurd hh.2.1 (by assumption) | exact absurd hh.2.2.1 (by assumption) | exact absurd hh.2.2.2 (by assumption)), ?_, ?_⟩, by simp [intOf]; omega⟩
             · exact (HW1.out.trans (HB1.out.mono (by omega))).alloc (by omega) _
             · exact Lib.hid ((HW.out.trans (HB1.out.mono (by omega))).alloc (by omega) _))
          | (go_ret2
             have hr := nrRel_hit HR hlt hm ⟨by assumption, by assumption, by assumption, by assumption⟩
             exact ⟨ret2 (by rw [hr]) (by first | (rw [hr]; done) | (rw [hr]; rfl)), (HW1.out.trans (HB1.out.mono (by omega))).alloc (by omega) _⟩)
      · go_wp2_with fail
        refine (refMaya_no _ _ (by omega)).mono ?_; rintro en w1 ⟨rfl, hb1⟩
        unfold mayaZ
        have HB1 := Lib.hid hb1; clear hb1
        have hz1 := HB1.out.size
        go_wp2_with fail
        go_ret2
        have hr := nrRel_far HR hlt (by omega)
        exact ⟨ret2 (by rw [hr]) (by first | (rw [hr]; done) | (rw [hr]; rfl)), (HW1.out.trans (HB1.out.mono (by omega))).alloc (by omega) _⟩
    · obtain rfl : k = 18980 := by omega
      go_wp2_with fail
      go_ret2
      have hr := nrRel_end HR
      exact ⟨ret2 (by rw [hr]) (by first | (rw [hr]; done) | (rw [hr]; rfl)), HW1.out⟩
set_option maxHeartbeats 1000000 in
theorem refNext_out (a b c e f : Int) (w : World) (h : f < -1856305 ∨ 4000000 < f) : Calls Tryd.prog 17 #[.agg #[.int .i64 a, .int .i64 b, .int .i64 c, .int .i64 e], .int .i64 f] w fun en w' => en = .returned (.tuple #[.int .i64 0, .int .i64 4]) ∧ Below w.heap.size w w' := by
  go_enter Tryd.func17, Tryd.ntmps17
  go_wp2_with fail
  refine (refMaya_no _ _ (by omega)).mono ?_; rintro en w0 ⟨rfl, hb0⟩
  unfold mayaZ
  have hz0 := hb0.size
  simp only [World.size_alloc] at hz0
  have HB0 := Lib.hid hb0; clear hb0
  go_wp2_with fail
  go_ret2
  exact ⟨rfl, (offA HB0.out).alloc (by omega) _⟩
theorem refNext_any (a b c e f : Int) (w : World) : Calls Tryd.prog 17 #[.agg #[.int .i64 a, .int .i64 b, .int .i64 c, .int .i64 e], .int .i64 f] w fun en w' => en = .returned (.tuple #[.int .i64 (nrT a b c e f).1, .int .i64 (nrT a b c e f).2]) ∧ Below w.heap.size w w' := by
  unfold nrT
  by_cases h : -1856305 ≤ f ∧ f ≤ 4000000
  · rw [if_pos h]; exact refNext_in a b c e f w h.1 h.2
  · rw [if_neg h]; exact refNext_out a b c e f w (by omega)
end Go.Proofs.YtajnpdaljocnnaaDoor
