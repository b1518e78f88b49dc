/- Leap, Months, Length of the document; the law DaysLeaps. -/
import Derived.Test.YtajnpdaljocnnaaDoorDaysH
namespace Go.Proofs.YtajnpdaljocnnaaDoor
open Go.RowKit
set_option maxHeartbeats 1000000 in
theorem refLeap_any (c y : Int) (w : World) : Calls Tryd.prog 23 #[.int .i64 c, .int .i64 y] w fun e w' => e = .returned (.tuple #[.bool (leapR c y), .int .i64 (yearE c y)]) ∧ w = w' := by
  rcases year_ways c y with h | ⟨h1, h2, h⟩ | ⟨h1, h2, h3, h4⟩
  · have hE := yearE_cal (y := y) h
    have HE := Lib.hid hE; clear hE
    go_enter Tryd.func23, Tryd.ntmps23
    go_wp2_with fail
    refine (year_any _ _ _).mono ?_; rintro e w' ⟨rfl, rfl⟩
    rw [HE.out]
    go_wp2_with fail
    go_ret2
    exact ⟨by unfold leapR; rw [HE.out]; rfl, rfl⟩
  · have hE := yearE_range h1 h2 h
    have HE := Lib.hid hE; clear hE
    go_enter Tryd.func23, Tryd.ntmps23
    go_wp2_with fail
    refine (year_any _ _ _).mono ?_; rintro e w' ⟨rfl, rfl⟩
    rw [HE.out]
    go_wp2_with fail
    go_ret2
    exact ⟨by unfold leapR; rw [HE.out]; rfl, rfl⟩
  · have hE := yearE_ok h1 h2 h3 h4
    have HE := Lib.hid hE; clear hE
    go_enter Tryd.func23, Tryd.ntmps23
    go_wp2_with fail
    refine (year_any _ _ _).mono ?_; rintro e w' ⟨rfl, rfl⟩
    rw [HE.out]
    go_wp2_with (go_at_call 52; refine (LeapYear_any _ _ _ h1 h2 (by omega) (by omega)).mono ?_; rintro e w' ⟨rfl, rfl⟩)
    go_ret2
    exact ⟨by unfold leapR; rw [HE.out]; rfl, rfl⟩
set_option maxHeartbeats 1000000 in
theorem refMonths_any (c y : Int) (w : World) : Calls Tryd.prog 25 #[.int .i64 c, .int .i64 y] w fun e w' => e = .returned (.tuple #[.int .i64 (monthsR c y), .int .i64 (yearE c y)]) ∧ Below w.heap.size w w' := by
  rcases year_ways c y with h | ⟨h1, h2, h⟩ | ⟨h1, h2, h3, h4⟩
  · have hE := yearE_cal (y := y) h
    have HE := Lib.hid hE; clear hE
    go_enter Tryd.func25, Tryd.ntmps25
    go_wp2_with fail
    refine (year_any _ _ _).mono ?_; rintro e w' ⟨rfl, rfl⟩
    rw [HE.out]
    go_wp2_with fail
    go_ret2
    exact ⟨by unfold monthsR; rw [HE.out]; rfl, Below.refl _ _⟩
  · have hE := yearE_range h1 h2 h
    have HE := Lib.hid hE; clear hE
    go_enter Tryd.func25, Tryd.ntmps25
    go_wp2_with fail
    refine (year_any _ _ _).mono ?_; rintro e w' ⟨rfl, rfl⟩
    rw [HE.out]
    go_wp2_with fail
    go_ret2
    exact ⟨by unfold monthsR; rw [HE.out]; rfl, Below.refl _ _⟩
  · have hE := yearE_ok h1 h2 h3 h4
    have HE := Lib.hid hE; clear hE
    go_enter Tryd.func25, Tryd.ntmps25
    go_wp2_with fail
    refine (year_any _ _ _).mono ?_; rintro e w' ⟨rfl, rfl⟩
    rw [HE.out]
    go_wp2_with fail
    refine (Lengths_any _ _ _ h1 h2 (by omega) (by omega)).mono ?_; rintro e w1 ⟨B, n, cap, rfl, hn, hB1, hB2, hx, hb⟩
    have HX := Lib.hid (And.intro hn (And.intro hx hb)); clear hn hx hb
    go_wp2_with fail
    go_ret2
    exact ⟨by unfold monthsR; rw [HE.out]; rw [if_pos rfl, HX.out.1]; rfl, HX.out.2.2⟩
set_option maxHeartbeats 1000000 in
theorem refLength_any (c y m : Int) (w : World) : Calls Tryd.prog 27 #[.int .i64 c, .int .i64 y, .int .i64 m] w fun e w' => e = .returned (.tuple #[.int .i64 (lenR c y m), .int .i64 (lenE c y m)]) ∧ Below w.heap.size w w' := by
  rcases year_ways c y with h | ⟨h1, h2, h⟩ | ⟨h1, h2, h3, h4⟩
  · have hE := yearE_cal (y := y) h
    have hF : lenE c y m = 2 := by rw [lenE_bad (by rw [hE]; decide), hE]
    have HE := Lib.hid hE; clear hE
    have HF := Lib.hid hF; clear hF
    go_enter Tryd.func27, Tryd.ntmps27
    go_wp2_with fail
    refine (year_any _ _ _).mono ?_; rintro e w' ⟨rfl, rfl⟩
    rw [HE.out]
    go_wp2_with fail
    go_ret2
    exact ⟨by unfold lenR; rw [HF.out]; rfl, Below.refl _ _⟩
  · have hE := yearE_range h1 h2 h
    have hF : lenE c y m = 4 := by rw [lenE_bad (by rw [hE]; decide), hE]
    have HE := Lib.hid hE; clear hE
    have HF := Lib.hid hF; clear hF
    go_enter Tryd.func27, Tryd.ntmps27
    go_wp2_with fail
    refine (year_any _ _ _).mono ?_; rintro e w' ⟨rfl, rfl⟩
    rw [HE.out]
    go_wp2_with fail
    go_ret2
    exact ⟨by unfold lenR; rw [HF.out]; rfl, Below.refl _ _⟩
  · have hE := yearE_ok h1 h2 h3 h4
    have HE := Lib.hid hE; clear hE
    have hml := Dm.months_lo c y
    by_cases hm : m < 1 ∨ Dm.months c y < m
    · have HF := Lib.hid (lenE_date HE.out hm)
      rcases hm with hm | hm
      · go_enter Tryd.func27, Tryd.ntmps27
        go_wp2_with fail
        refine (year_any _ _ _).mono ?_; rintro e w' ⟨rfl, rfl⟩
        rw [HE.out]
        go_wp2_with fail
        refine (Lengths_any _ _ _ h1 h2 (by omega) (by omega)).mono ?_; rintro e w1 ⟨B, n, cap, rfl, hn, hB1, hB2, hx, hb⟩
        have HX := Lib.hid (And.intro hn (And.intro hx hb)); clear hn hx hb
        go_wp2_with fail
        go_ret2
        exact ⟨by unfold lenR; rw [HF.out]; rfl, HX.out.2.2⟩
      · by_cases hm1 : m < 1
        · exfalso; omega
        · go_enter Tryd.func27, Tryd.ntmps27
          go_wp2_with fail
          refine (year_any _ _ _).mono ?_; rintro e w' ⟨rfl, rfl⟩
          rw [HE.out]
          go_wp2_with fail
          refine (Lengths_any _ _ _ h1 h2 (by omega) (by omega)).mono ?_; rintro e w1 ⟨B, n, cap, rfl, hn, hB1, hB2, hx, hb⟩
          have hm2 : (n : Int) < m := by omega
          have HX := Lib.hid (And.intro hn (And.intro hx hb)); clear hn hx hb hm hml
          go_wp2_with fail
          go_ret2
          exact ⟨by unfold lenR; rw [HF.out]; rfl, HX.out.2.2⟩
    · have HF := Lib.hid (lenE_ok HE.out (show 1 ≤ m by omega) (show m ≤ Dm.months c y by omega))
      have hm1 : 1 ≤ m := by omega
      have hm1' : ¬ m < 1 := by omega
      go_enter Tryd.func27, Tryd.ntmps27
      go_wp2_with fail
      refine (year_any _ _ _).mono ?_; rintro e w' ⟨rfl, rfl⟩
      rw [HE.out]
      go_wp2_with fail
      refine (Lengths_any _ _ _ h1 h2 (by omega) (by omega)).mono ?_; rintro e w1 ⟨B, n, cap, rfl, hn, hB1, hB2, hx, hb⟩
      have hm2 : m ≤ (n : Int) := by omega
      have hm3 : (n : Int) ≤ 13 := by omega
      have hcell : w1.cell? ⟨B, m.toNat - 1, none⟩ = some (.int .i64 (Dm.length c y m)) := by
        have := hx (m.toNat - 1) (by omega)
        rw [this, show ((m.toNat - 1 : Nat) : Int) + 1 = m by omega]
      have HX := Lib.hid (And.intro hn (And.intro hx hb)); clear hn hx hb hm hml
      go_wp2_with fail
      go_ret2
      exact ⟨by unfold lenR; rw [HF.out]; rfl, HX.out.2.2⟩
set_option maxHeartbeats 2000000 in
theorem daysLeaps_walk (c y m : Int) (w : World) (hT : ErrT w) (hr : RomanT w) :
    Calls Tryd.prog 7 #[.int .i64 c, .int .i64 y, .int .i64 m] w fun en w' => en = .returned (.bool true) ∧ Below w.heap.size w w' := by
  have HT : Hid (ErrT w ∧ RomanT w) := Lib.hid ⟨hT, hr⟩; clear hT hr
  go_enter Tryd.func7, Tryd.ntmps7
  go_wp2_with fail
  refine (plainLeap _ _ _ HT.out.1 HT.out.2).mono ?_; rintro en w1 ⟨rfl, hb1⟩
  have HT1 : Hid (ErrT w1 ∧ RomanT w1) := Lib.hid ⟨HT.out.1.call hb1, HT.out.2.call hb1⟩
  have HB1 := Lib.hid hb1; clear hb1
  go_wp2_with fail
  refine (refLeap_any _ _ _).mono ?_; rintro en w' ⟨rfl, rfl⟩
  go_wp2_with fail
  refine (plainMonths _ _ _ HT1.out.1 HT1.out.2).mono ?_; rintro en w2 ⟨rfl, hb2⟩
  have HT2 : Hid (ErrT w2 ∧ RomanT w2) := Lib.hid ⟨HT1.out.1.call hb2, HT1.out.2.call hb2⟩
  have HB2 := Lib.hid (thenB HB1.out hb2); clear hb2
  go_wp2_with fail
  refine (refMonths_any _ _ _).mono ?_; rintro en w3 ⟨rfl, hb3⟩
  have HT3 : Hid (ErrT w3 ∧ RomanT w3) := Lib.hid ⟨HT2.out.1.call hb3, HT2.out.2.call hb3⟩
  have HB3 := Lib.hid (thenB HB2.out hb3); clear hb3
  go_wp2_with fail
  refine (plainLength _ _ _ _ HT3.out.1 HT3.out.2).mono ?_; rintro en w4 ⟨rfl, hb4⟩
  have HB4 := Lib.hid (thenB HB3.out hb4); clear hb4
  go_wp2_with fail
  refine (refLength_any _ _ _ _).mono ?_; rintro en w5 ⟨rfl, hb5⟩
  have HB5 := Lib.hid (thenB HB4.out hb5); clear hb5
  go_wp2_with fail
  all_goals go_ret
  all_goals exact ⟨retB (by simp), HB5.out⟩
end Go.Proofs.YtajnpdaljocnnaaDoor
