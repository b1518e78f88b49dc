/- Weekdays and weeks: the document's, and the laws DaysWeeks and DaysWeek. -/
import Derived.Test.YtajnpdaljocnnaaDoorDaysR
namespace Go.Proofs.YtajnpdaljocnnaaDoor
open Go.RowKit
theorem there_r (n : Int) (w : World) : Calls Tryd.prog 43 #[.int .i64 n] w fun e w' => e = .returned (.tuple #[.int .i64 (rangeR n), .int .i64 (rangeE n)]) ∧ w = w' := there_any n w
set_option maxHeartbeats 1000000 in
theorem refWeeks_all (y : Int) (w : World) : Calls Tryd.prog 33 #[.int .i64 y] w fun e w' => e = .returned (.tuple #[.int .i64 (weeksR y), .int .i64 (yearE 1 y)]) ∧ Below w.heap.size w w' := by
  rcases (show (y < -20000 ∨ 20000 < y) ∨ (-20000 ≤ y ∧ y ≤ 20000) by omega) with h | ⟨h1, h2⟩
  · have HE := Lib.hid (And.intro (yearE1_out h) (weeksR_out h)); clear h
    go_enter Tryd.func33, Tryd.ntmps33
    go_wp2_with fail
    refine (year_any _ _ _).mono ?_; rintro e w' ⟨rfl, rfl⟩
    rw [HE.out.1]
    go_wp2_with fail
    go_ret2
    exact ⟨by rw [HE.out.1, HE.out.2]; rfl, Below.refl _ _⟩
  · have HE := Lib.hid (And.intro (yearE1_in h1 h2) (weeksR_in h1 h2))
    have B1 := Dm.w1_bd y (by omega) (by omega)
    have B2 := Dm.w1_bd (y + 1) (by omega) (by omega)
    have B3 := Dm.weeks_two y
    have B4 : 0 ≤ Dm.w1 (y + 1) - Dm.w1 y := by omega
    clear B3
    go_enter Tryd.func33, Tryd.ntmps33
    go_wp2_with fail
    refine (year_any _ _ _).mono ?_; rintro e w' ⟨rfl, rfl⟩
    rw [HE.out.1]
    go_wp2_with fail
    refine (WeekOne_any _ _ (by omega) (by omega)).mono ?_; rintro e w1 ⟨rfl, hb1⟩
    have HB1 := Lib.hid hb1; clear hb1
    go_wp2_with fail
    refine (WeekOne_any _ _ (by omega) (by omega)).mono ?_; rintro e w2 ⟨rfl, hb2⟩
    have HB2 := Lib.hid (thenB HB1.out hb2); clear hb2
    go_wp2_with fail
    go_ret2
    exact ⟨by rw [HE.out.1, HE.out.2]; rfl, HB2.out⟩
set_option maxHeartbeats 2000000 in
theorem refOfWeek_all (y k d : Int) (w : World) : Calls Tryd.prog 35 #[.int .i64 y, .int .i64 k, .int .i64 d] w fun e w' => ∃ r x, e = .returned (.tuple #[.int .i64 r, .int .i64 x]) ∧ OwR y k d r x ∧ Below w.heap.size w w' := by
  rcases (show (y < -20000 ∨ 20000 < y) ∨ (-20000 ≤ y ∧ y ≤ 20000) by omega) with h | ⟨h1, h2⟩
  · have HE := Lib.hid (And.intro (yearE1_out h) (weeksR_out h)); clear h
    go_enter Tryd.func35, Tryd.ntmps35
    go_wp2_with fail
    refine (refWeeks_all _ _).mono ?_; rintro e w1 ⟨rfl, hb1⟩
    rw [HE.out.1, HE.out.2]
    have HB1 := Lib.hid hb1; clear hb1
    go_wp2_with fail
    go_ret2
    exact ⟨0, 4, rfl, .inl ⟨by rw [HE.out.1]; decide, rfl, HE.out.1.symm⟩, HB1.out⟩
  · have HE := Lib.hid (yearE1_in h1 h2)
    have B1 := Dm.w1_bd y (by omega) (by omega)
    have B3 := Dm.weeks_two y
    have hw := weeksR_in h1 h2
    have hw2 : 52 ≤ weeksR y ∧ weeksR y ≤ 53 := by omega
    clear B3 hw
    obtain ⟨K, hK0⟩ : ∃ K, weeksR y = K := ⟨_, rfl⟩
    rw [hK0] at hw2
    have HK := Lib.hid hK0; clear hK0
    rcases (show k < 1 ∨ (1 ≤ k ∧ K < k) ∨ (1 ≤ k ∧ k ≤ K ∧ d < 1) ∨ (1 ≤ k ∧ k ≤ K ∧ 1 ≤ d ∧ 7 < d) ∨ (1 ≤ k ∧ k ≤ K ∧ 1 ≤ d ∧ d ≤ 7) by omega) with g | ⟨g1, g⟩ | ⟨g1, g2, g⟩ | ⟨g1, g2, g3, g⟩ | ⟨g1, g2, g3, g4⟩
    iterate 4
      · go_enter Tryd.func35, Tryd.ntmps35
        go_wp2_with fail
        refine (refWeeks_all _ _).mono ?_; rintro e w1 ⟨rfl, hb1⟩
        rw [HE.out, HK.out]
        have HB1 := Lib.hid hb1; clear hb1
        go_wp2_with fail
        go_ret2
        exact ⟨0, 3, rfl, .inr (.inl ⟨HE.out, by unfold owD; rw [HK.out]; omega, rfl, rfl⟩), HB1.out⟩
    · have hno : ¬ owD y k d := by unfold owD; rw [HK.out]; omega
      have HO := Lib.hid hno; clear hno
      go_enter Tryd.func35, Tryd.ntmps35
      go_wp2_with fail
      refine (refWeeks_all _ _).mono ?_; rintro e w1 ⟨rfl, hb1⟩
      rw [HE.out, HK.out]
      have HB1 := Lib.hid hb1; clear hb1
      go_wp2_with fail
      refine (WeekOne_any _ _ (by omega) (by omega)).mono ?_; rintro e w2 ⟨rfl, hb2⟩
      have HB2 := Lib.hid (thenB HB1.out hb2); clear hb2
      go_wp2_with fail
      refine (there_r _ _).mono ?_; rintro e w' ⟨rfl, rfl⟩
      go_wp2_with fail
      go_ret2
      exact ⟨_, _, rfl, .inr (.inr ⟨HE.out, HO.out, rfl, rfl⟩), HB2.out⟩
set_option maxHeartbeats 2000000 in
theorem daysWeeks_walk (n y k d : Int) (w : World) (hT : ErrT w) (hr : RomanT w) (hn : InI n) : Calls Tryd.prog 10 #[.int .i64 n, .int .i64 y, .int .i64 k, .int .i64 d] w fun e w' => e = .returned (.bool true) ∧ Below w.heap.size w w' := by
  have HT : Hid (ErrT w ∧ RomanT w ∧ InI n) := Lib.hid ⟨hT, hr, hn⟩; clear hT hr hn
  go_enter Tryd.func10, Tryd.ntmps10
  go_wp2_with fail
  refine (plainWeek _ _ HT.out.1 HT.out.2.1).mono ?_; rintro en w1 ⟨y1, k1, d1, rfl, hR1, hb1⟩
  have HR1 := Lib.hid hR1; clear hR1
  have HT1 := Lib.hid (HT.out.1.call hb1)
  have HB1 := Lib.hid hb1; clear hb1
  go_wp2_with fail
  refine (refWeek_all _ _).mono ?_; rintro en w2 ⟨y2, k2, d2, rfl, hR2, hb2⟩
  obtain ⟨rfl, rfl, rfl⟩ := HR1.out.one hR2
  clear hR2
  have HT2 := Lib.hid (HT1.out.call hb2)
  have HB2 := Lib.hid (thenB HB1.out hb2); clear hb2
  go_wp2_with fail
  refine (plainWeeks _ _ HT2.out).mono ?_; rintro en w3 ⟨rfl, hb3⟩
  have HT3 := Lib.hid (HT2.out.call hb3)
  have HB3 := Lib.hid (thenB HB2.out hb3); clear hb3
  go_wp2_with fail
  refine (refWeeks_all _ _).mono ?_; rintro en w4 ⟨rfl, hb4⟩
  have HT4 := Lib.hid (HT3.out.call hb4)
  have HB4 := Lib.hid (thenB HB3.out hb4); clear hb4
  go_wp2_with fail
  refine (plainOfWeek _ _ _ _ HT4.out).mono ?_; rintro en w5 ⟨r, x, rfl, hR5, hb5⟩
  have HR5 := Lib.hid hR5; clear hR5
  have HB5 := Lib.hid (thenB HB4.out hb5); clear hb5
  go_wp2_with fail
  refine (refOfWeek_all _ _ _ _).mono ?_; rintro en w6 ⟨r', x', rfl, hR6, hb6⟩
  obtain ⟨rfl, rfl⟩ := HR5.out.one hR6
  clear hR6
  have HB6 := Lib.hid (thenB HB5.out hb6); clear hb6
  go_wp2_with (first | (go_at_call 36; refine (plainWeekday _ _ HT.out.2.2).mono ?_; rintro e w' ⟨rfl, rfl⟩) | (go_at_call 37; refine (refWeekday_any _ _).mono ?_; rintro e w' ⟨rfl, rfl⟩))
  all_goals go_ret
  all_goals exact ⟨retB (by simp), HB6.out⟩
end Go.Proofs.YtajnpdaljocnnaaDoor
