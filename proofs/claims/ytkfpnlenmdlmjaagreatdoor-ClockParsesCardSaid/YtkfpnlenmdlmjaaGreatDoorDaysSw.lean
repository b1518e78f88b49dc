/- Weeks: the document's numbers of weeks and days of a week. -/
import Derived.Test.YtkfpnlenmdlmjaaGreatDoorDaysR
namespace Go.Proofs.YtkfpnlenmdlmjaaGreatDoor
open Go.RowKit
theorem there_w (n : Int) (w : World) : Calls Tryz.prog 27 #[.int .i64 n] w fun e w' => e = .returned (.tuple #[.int .i64 (rangeR n), .int .i64 (rangeE n)]) ∧ w = w' := there_any n w
set_option maxHeartbeats 1000000 in
theorem refWeeks_all (y : Int) (w : World) : Calls Tryz.prog 88 #[.int .i64 y] w fun e w' => e = .returned (.tuple #[.int .i64 (weeksR y), .int .i64 (yearE 1 y)]) ∧ Below w.heap.size w w' := by
  rcases (show (y < -20000 ∨ 20000 < y) ∨ (-20000 ≤ y ∧ y ≤ 20000) by omega) with h | ⟨h1, h2⟩
  · have HE := Lib.hid (And.intro (yearE1_out h) (weeksR_out h)); clear h
    go_enter Tryz.func88, Tryz.ntmps88
    go_wp2_with fail
    refine (year_any _ _ _).mono ?_; rintro e w' ⟨rfl, rfl⟩
    rw [HE.out.1]
    go_wp2_with fail
    go_ret2
    exact ⟨by rw [HE.out.1, HE.out.2]; rfl, Below.refl _ _⟩
  · have HE := Lib.hid (And.intro (yearE1_in h1 h2) (weeksR_in h1 h2))
    have B1 := Dm.w1_bd y (by omega) (by omega)
    have B2 := Dm.w1_bd (y + 1) (by omega) (by omega)
    have B3 := Dm.weeks_two y
    have B4 : 0 ≤ Dm.w1 (y + 1) - Dm.w1 y := by omega
    clear B3
    go_enter Tryz.func88, Tryz.ntmps88
    go_wp2_with fail
    refine (year_any _ _ _).mono ?_; rintro e w' ⟨rfl, rfl⟩
    rw [HE.out.1]
    go_wp2_with fail
    refine (WeekOne_any _ _ (by omega) (by omega)).mono ?_; rintro e w1 ⟨rfl, hb1⟩
    have HB1 := Lib.hid hb1; clear hb1
    go_wp2_with fail
    refine (WeekOne_any _ _ (by omega) (by omega)).mono ?_; rintro e w2 ⟨rfl, hb2⟩
    have HB2 := Lib.hid (thenB HB1.out hb2); clear hb2
    go_wp2_with fail
    go_ret2
    exact ⟨by rw [HE.out.1, HE.out.2]; rfl, HB2.out⟩
set_option maxHeartbeats 2000000 in
theorem refOfWeek_all (y k d : Int) (w : World) : Calls Tryz.prog 50 #[.int .i64 y, .int .i64 k, .int .i64 d] w fun e w' => ∃ r x, e = .returned (.tuple #[.int .i64 r, .int .i64 x]) ∧ OwR y k d r x ∧ Below w.heap.size w w' := by
  rcases (show (y < -20000 ∨ 20000 < y) ∨ (-20000 ≤ y ∧ y ≤ 20000) by omega) with h | ⟨h1, h2⟩
  · have HE := Lib.hid (And.intro (yearE1_out h) (weeksR_out h)); clear h
    go_enter Tryz.func50, Tryz.ntmps50
    go_wp2_with fail
    refine (refWeeks_all _ _).mono ?_; rintro e w1 ⟨rfl, hb1⟩
    rw [HE.out.1, HE.out.2]
    have HB1 := Lib.hid hb1; clear hb1
    go_wp2_with fail
    go_ret2
    exact ⟨0, 4, rfl, .inl ⟨by rw [HE.out.1]; decide, rfl, HE.out.1.symm⟩, HB1.out⟩
  · have HE := Lib.hid (yearE1_in h1 h2)
    have B1 := Dm.w1_bd y (by omega) (by omega)
    have B3 := Dm.weeks_two y
    have hw := weeksR_in h1 h2
    have hw2 : 52 ≤ weeksR y ∧ weeksR y ≤ 53 := by omega
    clear B3 hw
    obtain ⟨K, hK0⟩ : ∃ K, weeksR y = K := ⟨_, rfl⟩
    rw [hK0] at hw2
    have HK := Lib.hid hK0; clear hK0
    rcases (show k < 1 ∨ (1 ≤ k ∧ K < k) ∨ (1 ≤ k ∧ k ≤ K ∧ d < 1) ∨ (1 ≤ k ∧ k ≤ K ∧ 1 ≤ d ∧ 7 < d) ∨ (1 ≤ k ∧ k ≤ K ∧ 1 ≤ d ∧ d ≤ 7) by omega) with g | ⟨g1, g⟩ | ⟨g1, g2, g⟩ | ⟨g1, g2, g3, g⟩ | ⟨g1, g2, g3, g4⟩
    iterate 4
      · go_enter Tryz.func50, Tryz.ntmps50
        go_wp2_with fail
        refine (refWeeks_all _ _).mono ?_; rintro e w1 ⟨rfl, hb1⟩
        rw [HE.out, HK.out]
        have HB1 := Lib.hid hb1; clear hb1
        go_wp2_with fail
        go_ret2
        exact ⟨0, 3, rfl, .inr (.inl ⟨HE.out, by unfold owD; rw [HK.out]; omega, rfl, rfl⟩), HB1.out⟩
    · have hno : ¬ owD y k d := by unfold owD; rw [HK.out]; omega
      have HO := Lib.hid hno; clear hno
      go_enter Tryz.func50, Tryz.ntmps50
      go_wp2_with fail
      refine (refWeeks_all _ _).mono ?_; rintro e w1 ⟨rfl, hb1⟩
      rw [HE.out, HK.out]
      have HB1 := Lib.hid hb1; clear hb1
      go_wp2_with fail
      refine (WeekOne_any _ _ (by omega) (by omega)).mono ?_; rintro e w2 ⟨rfl, hb2⟩
      have HB2 := Lib.hid (thenB HB1.out hb2); clear hb2
      go_wp2_with fail
      refine (there_w _ _).mono ?_; rintro e w' ⟨rfl, rfl⟩
      go_wp2_with fail
      go_ret2
      exact ⟨_, _, rfl, .inr (.inr ⟨HE.out, HO.out, rfl, rfl⟩), HB2.out⟩
end Go.Proofs.YtkfpnlenmdlmjaaGreatDoor
