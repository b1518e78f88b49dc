/- The date of a day: the document's; and the law. Weekdays and weeks: from outside, and the document's; the laws DaysWeeks and DaysWeek. Weeks: the document's numbers of weeks and days of a week. -/
import Derived.Test.YtkfpnlenmdlmjaaGreatDoorZG6
namespace Go.Proofs.YtkfpnlenmdlmjaaGreatDoor
open Go.RowKit
theorem start_y0 (c N : Int) (c1 : 1 ≤ c) (c2 : c ≤ 10) (h : 0 ≤ N) : Dm.start c (N / 366) ≤ N := by
  have l1 := Dm.lin_start c (N / 366) c1 c2
  unfold Dm.Lin at l1
  omega
theorem start_y1 (c N : Int) (c1 : 1 ≤ c) (c2 : c ≤ 10) (h : N < 0) : Dm.start c (N / 354 - 2) ≤ N := by
  have l1 := Dm.lin_start c (N / 354 - 2) c1 c2
  unfold Dm.Lin at l1
  omega
set_option maxHeartbeats 2000000 in
theorem refOf_bad (c n : Int) (w : World) (h : (c < 1 ∨ 10 < c) ∨ (1 ≤ c ∧ c ≤ 10 ∧ (n < -4000000 ∨ 4000000 < n))) : Calls Tryz.prog 95 #[.int .i64 c, .int .i64 n] w fun e w' => e = .returned (.tuple #[dateV 0 0 0 0, .int .i64 (ofE c n)]) ∧ Below w.heap.size w w' := by
  rcases h with h | ⟨c1, c2, h⟩
  · have hb : (decide (1 ≤ c) && decide (c ≤ 10)) = false := by simp; omega
    have HE := Lib.hid (ofE_cal (n := n) h)
    go_enter Tryz.func95, Tryz.ntmps95
    go_wp2_with fail
    refine (CalOK_any _ _).mono ?_; rintro e w' ⟨rfl, rfl⟩
    rw [hb]
    go_wp2_with fail
    refine bodyPost_ret (v := .tuple #[dateV 0 0 0 0, .int .i64 2]) (by simp [results, Tryz.results95, go_sem, dateV]) rfl ⟨by rw [HE.out], ?_⟩
    repeat (first | with_reducible exact Below.refl _ _ | (with_reducible refine Below.alloc ?_ (by first | omega | (simp <;> omega)) _) | (with_reducible refine Below.setCell ?_ (by first | omega | (simp <;> omega)) _))
  · have hb : (decide (1 ≤ c) && decide (c ≤ 10)) = true := by simp; omega
    have HE := Lib.hid (ofE_range c1 c2 h)
    have HN := Lib.hid (show ¬ (-4000000 ≤ n ∧ n ≤ 4000000) by omega)
    clear h
    go_enter Tryz.func95, Tryz.ntmps95
    go_wp2_with fail
    refine (CalOK_any _ _).mono ?_; rintro e w' ⟨rfl, rfl⟩
    rw [hb]
    go_wp2_with fail
    refine (there_any _ _).mono ?_; rintro e w' ⟨rfl, rfl⟩
    rw [if_neg HN.out, if_neg HN.out]
    go_wp2_with fail
    refine bodyPost_ret (v := .tuple #[dateV 0 0 0 0, .int .i64 4]) (by simp [results, Tryz.results95, go_sem, dateV]) rfl ⟨by rw [HE.out], ?_⟩
    repeat (first | with_reducible exact Below.refl _ _ | (with_reducible refine Below.alloc ?_ (by first | omega | (simp <;> omega)) _) | (with_reducible refine Below.setCell ?_ (by first | omega | (simp <;> omega)) _))
set_option maxHeartbeats 4000000 in
theorem refOf_ok (c n : Int) (w : World) (c1 : 1 ≤ c) (c2 : c ≤ 10) (h1 : -4000000 ≤ n) (h2 : n ≤ 4000000) : Calls Tryz.prog 95 #[.int .i64 c, .int .i64 n] w (OfOk c n (.int .i64 0) w) := by
  have hb : (decide (1 ≤ c) && decide (c ≤ 10)) = true := by simp; omega
  have HN := Lib.hid (show (-4000000 ≤ n ∧ n ≤ 4000000) from ⟨h1, h2⟩)
  have b1 := Dm.first_bd c
  obtain ⟨F, hF0⟩ : ∃ F, Dm.first c = F := ⟨_, rfl⟩
  rw [hF0] at b1
  have HF := Lib.hid hF0; clear hF0
  obtain ⟨Y, hY0⟩ : ∃ Y, Y = if n < F then (n - F) / 354 - 2 else (n - F) / 366 := ⟨_, rfl⟩
  have hYs : Dm.start c Y ≤ n - F := by
    rw [hY0]; split
    · exact start_y1 c _ c1 c2 (by omega)
    · exact start_y0 c _ c1 c2 (by omega)
  have hY1 : -15000 ≤ Y := by rw [hY0]; split <;> omega
  have hY2 : Y ≤ 17300 := by rw [hY0]; split <;> omega
  obtain ⟨Q, hQ0⟩ : ∃ Q, (n - F) / 366 = Q := ⟨_, rfl⟩
  have hQ1 : -15000 ≤ Q ∧ Q ≤ 17300 := by omega
  have HQ := Lib.hid (And.intro hQ0 (And.intro hY0.symm hYs)); clear hQ0 hY0 hYs
  by_cases hlt : n < F
  all_goals
    go_enter Tryz.func95, Tryz.ntmps95
    go_wp2_with fail
    refine (CalOK_any _ _).mono ?_; rintro e w' ⟨rfl, rfl⟩
    rw [hb]
    go_wp2_with fail
    refine (there_any _ _).mono ?_; rintro e w' ⟨rfl, rfl⟩
    rw [if_pos HN.out, if_pos HN.out]
    go_wp2_with fail
    refine (first_any _ _ c1 c2).mono ?_; rintro e w1 ⟨rfl, hb1⟩
    rw [HF.out]
    have hz1 := hb1.size
    simp only [World.size_alloc] at hz1
    obtain ⟨q1, p1⟩ := carry hb1 w.heap.size (by simp)
    have HB1 := Lib.hid (offA hb1); clear hb1
    go_wp2_with fail
    refine (Floor_any _ _ _ (by omega) (by omega) (by omega) (by omega)).mono ?_; rintro e w' ⟨rfl, rfl⟩
    rw [HQ.out.1]
    go_wp2_with fail
    refine (first_any _ _ c1 c2).mono ?_; rintro e w2 ⟨rfl, hb2⟩
    rw [HF.out]
    have hz2 := hb2.size
    obtain ⟨q2, p2⟩ := carry hb2 w.heap.size (by omega)
    have HB2 := Lib.hid (thenB HB1.out hb2); clear hb2
    go_wp2_with fail
  all_goals
    first
    | (refine (first_any _ _ c1 c2).mono ?_; rintro e w3 ⟨rfl, hb3⟩
       rw [HF.out]
       have hz3 := hb3.size
       obtain ⟨q3, p3⟩ := carry hb3 w.heap.size (by omega)
       have HB3 := Lib.hid (thenB HB2.out hb3); clear hb3
       go_wp2_with fail
       refine (Floor_any _ _ _ (by omega) (by omega) (by omega) (by omega)).mono ?_; rintro e w' ⟨rfl, rfl⟩
       go_wp2_with fail
       have hY := HQ.out.2.1
       rw [if_pos hlt] at hY
       rw [hY]
       clear hY
       have QQ := fun o => (q3 o).trans ((q2 o).trans (q1 o))
       have PP := fun o => (p3 o).trans ((p2 o).trans (p1 o))
       have HZ : w.heap.size < w3.heap.size := by omega)
    | (have hY := HQ.out.2.1
       rw [if_neg (by omega), HQ.out.1] at hY
       rw [hY]
       clear hY
       have HB3 := HB2
       have QQ := fun o => (q2 o).trans (q1 o)
       have PP := fun o => (p2 o).trans (p1 o)
       have HZ : w.heap.size < w2.heap.size := by omega)
  all_goals
    clear hlt
    refine (YearStart_any _ _ _ c1 c2 (by omega) (by omega)).mono ?_; rintro e w4 ⟨rfl, hb4⟩
    rw [HF.out]
    have hz4 := hb4.size
    obtain ⟨q4, p4⟩ := carry hb4 w.heap.size (by omega)
    have HB4 := Lib.hid (thenB HB3.out hb4); clear hb4
    go_wp2_with fail
    go_loopw [9, 8] (fun a y wr => ∃ yy : Int, y = .int .i64 yy ∧ a = .int .i64 (F + Dm.start c yy) ∧ -15000 ≤ yy ∧ Dm.start c yy ≤ n - F ∧ (∀ o, wr.cell? ⟨w.heap.size, o, none⟩ = (w.alloc (.cells #[.int .i64 0, .int .i64 0, .int .i64 0, .int .i64 0] 72)).cell? ⟨w.heap.size, o, none⟩) ∧ (∀ o, wr.frozen? ⟨w.heap.size, o, none⟩ = (w.alloc (.cells #[.int .i64 0, .int .i64 0, .int .i64 0, .int .i64 0] 72)).frozen? ⟨w.heap.size, o, none⟩) ∧ w.heap.size < wr.heap.size ∧ Hid (Below w.heap.size w wr)) (fun _ y _ => (20000 - intOf y).toNat)
    case atStart => exact ⟨_, rfl, rfl, hY1, HQ.out.2.2, fun o => (q4 o).trans (QQ o), fun o => (p4 o).trans (PP o), by omega, HB4⟩
    case round =>
      obtain ⟨yy, rfl, rfl, y1, ys, r1, s1, rz, HBr⟩ := hrel
      have y2 : yy ≤ 17300 := by have l := Dm.lin_start c yy c1 c2; unfold Dm.Lin at l; omega
      have b2 := Dm.start_bd c yy c1 c2 (by omega) (by omega)
      have b3 := Dm.days_bd c yy c1 c2 (by omega) (by omega)
      have HY : Hid (Dm.yearDays c yy = Dm.start c (yy + 1) - Dm.start c yy) := Lib.hid rfl
      by_cases hgo : F + Dm.start c yy + Dm.yearDays c yy ≤ n
      · go_wp2_with fail
        refine (YearDays_any _ _ _ c1 c2 (by omega) (by omega)).mono ?_; rintro e w5 ⟨rfl, hb5⟩
        have hz5 := hb5.size
        obtain ⟨q5, p5⟩ := carry hb5 w.heap.size rz
        have HB5 := Lib.hid (thenB HBr.out hb5); clear hb5
        go_wp2_with fail
        refine (YearDays_any _ _ _ c1 c2 (by omega) (by omega)).mono ?_; rintro e w6 ⟨rfl, hb6⟩
        have hz6 := hb6.size
        obtain ⟨q6, p6⟩ := carry hb6 w.heap.size (by omega)
        have HB6 := Lib.hid (thenB HB5.out hb6); clear hb6
        go_wp2_with fail
        go_roundw
        case rel => exact ⟨yy + 1, rfl, by rw [show F + Dm.start c yy + Dm.yearDays c yy = F + Dm.start c (yy + 1) by rw [HY.out]; omega], by omega, by have := HY.out; omega, fun o => (q6 o).trans ((q5 o).trans (r1 o)), fun o => (p6 o).trans ((p5 o).trans (s1 o)), by omega, HB6⟩
        case measure => simp [intOf]; omega
      · go_wp2_with fail
        refine (YearDays_any _ _ _ c1 c2 (by omega) (by omega)).mono ?_; rintro e w5 ⟨rfl, hb5⟩
        have hz5 := hb5.size
        obtain ⟨q5, p5⟩ := carry hb5 w.heap.size rz
        have HB5 := Lib.hid (thenB HBr.out hb5); clear hb5
        go_wp2_with fail
        refine (Lengths_any _ _ _ c1 c2 (by omega) (by omega)).mono ?_; rintro e w6 ⟨B, k, cap, rfl, hk, hB1, hB2, hx, hb6⟩
        have hz6 := hb6.size
        obtain ⟨q6, p6⟩ := carry hb6 w.heap.size (by omega)
        have HB6 := Lib.hid (thenB HB5.out hb6); clear hb6
        have HX := Lib.hid hx; clear hx
        have RR := fun o => (q6 o).trans ((q5 o).trans (r1 o))
        have b4 := Dm.months_lo c yy
        go_wp2_with fail
        go_loop [9, 11] (fun a mm => ∃ t : Nat, mm = .int .i64 t ∧ a = .int .i64 (F + Dm.start c yy + Dm.upTo c yy t) ∧ t < k ∧ F + Dm.start c yy + Dm.upTo c yy t ≤ n) (fun _ mm => 14 - (intOf mm).toNat)
        case atStart => exact ⟨0, rfl, by simp [Dm.upTo], by omega, by simp [Dm.upTo]; omega⟩
        case round =>
          obtain ⟨t, rfl, rfl, ht, hn0⟩ := hrel
          have b5 := Dm.upTo_bd c yy t
          have b6 := Dm.length_bd c yy (t + 1)
          have hcell := HX.out t ht
          by_cases hgt : F + Dm.start c yy + Dm.upTo c yy t + Dm.length c yy (t + 1) ≤ n
          · have hU : Dm.upTo c yy (t + 1) = Dm.upTo c yy t + Dm.length c yy (t + 1) := rfl
            have hnx : t + 1 < k := by
              have hs := Dm.sum_all c yy c1 c2 (by omega) (by omega)
              by_cases hm : t + 1 = k
              · have e : (Dm.months c yy).toNat = t + 1 := by omega
                rw [e, hU] at hs
                omega
              · omega
            have HU := Lib.hid hU; clear hU
            go_wp2_with fail
            go_round
            case rel => exact ⟨t + 1, by go_num, by rw [HU.out]; congr 1; omega, by omega, by rw [HU.out]; omega⟩
            case measure => simp [intOf]; omega
          · go_wp2_with fail
            refine bodyPost_ret (v := .tuple #[dateV c yy (t + 1) (n - (F + Dm.start c yy + Dm.upTo c yy t) + 1), .int .i64 0]) (by simp [results, Tryz.results95, go_sem, RR, dateV]) rfl ⟨_, _, _, rfl, ⟨by omega, by omega, by omega, by omega, by omega, by omega⟩, ?_, ?_⟩
            · have hN := HF.out
              unfold Dm.dayOf
              rw [show ((t : Int) + 1 - 1).toNat = t by omega]
              omega
            · repeat (first | with_reducible exact HB6.out | (with_reducible refine Below.alloc ?_ (by first | omega | (simp <;> omega)) _) | (with_reducible refine Below.setCell ?_ (by first | omega | (simp <;> omega)) _))
theorem refOf_all (c n : Int) (w : World) : Calls Tryz.prog 95 #[.int .i64 c, .int .i64 n] w (OfPost2 c n (.int .i64 (ofE c n)) w) := by
  rcases of_ways c n with h | h | ⟨c1, c2, h1, h2⟩
  · exact (refOf_bad c n w (.inl h)).mono fun e w' ⟨he, hb⟩ => ⟨0, 0, 0, 0, he, .inl ⟨by rw [ofE_cal h]; decide, rfl, rfl, rfl, rfl⟩, hb⟩
  · exact (refOf_bad c n w (.inr h)).mono fun e w' ⟨he, hb⟩ => ⟨0, 0, 0, 0, he, .inl ⟨by rw [ofE_range h.1 h.2.1 h.2.2]; decide, rfl, rfl, rfl, rfl⟩, hb⟩
  · rw [ofE_ok c1 c2 h1 h2]; exact (refOf_ok c n w c1 c2 h1 h2).mono fun e w' ⟨y, m, d, he, hv, hd, hb⟩ => ⟨c, y, m, d, he, .inr ⟨ofE_ok c1 c2 h1 h2, rfl, c1, c2, hv, hd⟩, hb⟩
end Go.Proofs.YtkfpnlenmdlmjaaGreatDoor
namespace Go.Proofs.YtkfpnlenmdlmjaaGreatDoor
open Go.RowKit
set_option maxHeartbeats 400000 in
theorem refWeekday_any (n : Int) (w : World) : Calls Tryz.prog 115 #[.int .i64 n] w fun e w' => e = .returned (.int .i64 (Dm.wd n)) ∧ w = w' := by
  go_enter Tryz.func115, Tryz.ntmps115
  go_wp2_with fail
  refine (Mod_any _ _ _ (by omega) (by omega)).mono ?_; rintro e w' ⟨rfl, rfl⟩
  go_wp2_with fail
  refine (Mod_any _ _ _ (by omega) (by omega)).mono ?_; rintro e w' ⟨rfl, rfl⟩
  go_wp2_with fail
  go_ret
  exact ⟨rfl, rfl⟩
set_option maxHeartbeats 1000000 in
theorem WeekOne_any (y : Int) (w : World) (h1 : -25000 ≤ y) (h2 : y ≤ 25000) : Calls Tryz.prog 89 #[.int .i64 1, .int .i64 y, .int .i64 1] w fun e w' => e = .returned (.int .i64 (Dm.w1 y)) ∧ Below w.heap.size w w' := by
  have b1 := Dm.start_bd 1 y (by omega) (by omega) h1 h2
  obtain ⟨D, hD0⟩ : ∃ D, Dm.start 1 y - 719162 + 3 = D := ⟨_, rfl⟩
  have b2 := Dm.wd_bd D
  have HD := Lib.hid hD0
  have hD1 : -13000000 ≤ D ∧ D ≤ 13000000 := by omega
  have hS : Dm.first 1 + Dm.start 1 y = D - 3 := by rw [show Dm.first 1 = -719162 from rfl]; omega
  have HS := Lib.hid hS
  clear hD0 hS
  go_enter Tryz.func89, Tryz.ntmps89
  go_wp2_with fail
  refine (YearStart_1 _ _ h1 h2).mono ?_; rintro e w1 ⟨rfl, hb1⟩
  rw [HS.out]
  have HB := Lib.hid hb1; clear hb1
  go_wp2_with fail
  go_loop [7] (fun d => ∃ t : Nat, d = .int .i64 (D - t) ∧ (t : Int) ≤ Dm.wd D - 1) (fun d => (intOf d - D + 10).toNat)
  case atStart => exact ⟨0, by simp, by omega⟩
  case round =>
    obtain ⟨t, rfl, ht⟩ := hrel
    have hw : Dm.wd (D - t) = Dm.wd D - t := by unfold Dm.wd at *; omega
    have HW := Lib.hid hw; clear hw
    by_cases hlt : (t : Int) = Dm.wd D - 1
    · have hw1 : Dm.wd (D - (Dm.wd D - 1)) = 1 := by unfold Dm.wd at *; omega
      have HW1 := Lib.hid hw1; clear hw1
      go_wp2_with fail
      refine (refWeekday_any _ _).mono ?_; rintro e w' ⟨rfl, rfl⟩
      rw [HW1.out]
      go_wp2_with fail
      go_ret
      exact ⟨ret1 (by have := HD.out; unfold Dm.w1; rw [this]), HB.out⟩
    · go_wp2_with fail
      refine (refWeekday_any _ _).mono ?_; rintro e w' ⟨rfl, rfl⟩
      rw [HW.out]
      go_wp2_with fail
      go_round
      case rel => exact ⟨t + 1, by push_cast; first | rfl | (congr 1; omega) | congr 1, by omega⟩
      case measure => simp [intOf]; omega
set_option maxHeartbeats 1000000 in
theorem greg_any (n : Int) (w : World) : Calls Tryz.prog 58 #[.int .i64 n] w fun e w' => ∃ a y m d, e = .returned (dateV a y m d) ∧ OfR 1 n a y m d ∧ Below w.heap.size w w' := by
  go_enter Tryz.func58, Tryz.ntmps58
  go_wp2_with fail
  refine (refOf_all _ _ _).mono ?_; rintro en w1 ⟨a, y, m, d, rfl, hR, hb1⟩
  unfold dateV
  have hz1 := hb1.size
  simp only [World.size_alloc] at hz1
  obtain ⟨q1, p1⟩ := carry hb1 w.heap.size (by simp)
  have hs1 : w.heap.size < w1.heap.size := by omega
  have HR := Lib.hid (And.intro hR (offA hb1)); clear hR hb1
  go_wp2_with fail
  refine bodyPost_ret (v := dateV a y m d) (by simp [results, Tryz.results58, go_sem, dateV, q1, hs1]) rfl ⟨a, y, m, d, rfl, HR.out.1, ?_⟩
  repeat (first | with_reducible exact HR.out.2 | (with_reducible refine Below.alloc ?_ (by first | omega | (simp <;> omega)) _) | (with_reducible refine Below.setCell ?_ (by first | omega | (simp <;> omega)) _))
end Go.Proofs.YtkfpnlenmdlmjaaGreatDoor
namespace Go.Proofs.YtkfpnlenmdlmjaaGreatDoor
open Go.RowKit
theorem there_w (n : Int) (w : World) : Calls Tryz.prog 27 #[.int .i64 n] w fun e w' => e = .returned (.tuple #[.int .i64 (rangeR n), .int .i64 (rangeE n)]) ∧ w = w' := there_any n w
set_option maxHeartbeats 1000000 in
theorem refWeeks_all (y : Int) (w : World) : Calls Tryz.prog 88 #[.int .i64 y] w fun e w' => e = .returned (.tuple #[.int .i64 (weeksR y), .int .i64 (yearE 1 y)]) ∧ Below w.heap.size w w' := by
  rcases (show (y < -20000 ∨ 20000 < y) ∨ (-20000 ≤ y ∧ y ≤ 20000) by omega) with h | ⟨h1, h2⟩
  · have HE := Lib.hid (And.intro (yearE1_out h) (weeksR_out h)); clear h
    go_enter Tryz.func88, Tryz.ntmps88
    go_wp2_with fail
    refine (year_any _ _ _).mono ?_; rintro e w' ⟨rfl, rfl⟩
    rw [HE.out.1]
    go_wp2_with fail
    go_ret2
    exact ⟨by rw [HE.out.1, HE.out.2]; rfl, Below.refl _ _⟩
  · have HE := Lib.hid (And.intro (yearE1_in h1 h2) (weeksR_in h1 h2))
    have B1 := Dm.w1_bd y (by omega) (by omega)
    have B2 := Dm.w1_bd (y + 1) (by omega) (by omega)
    have B3 := Dm.weeks_two y
    have B4 : 0 ≤ Dm.w1 (y + 1) - Dm.w1 y := by omega
    clear B3
    go_enter Tryz.func88, Tryz.ntmps88
    go_wp2_with fail
    refine (year_any _ _ _).mono ?_; rintro e w' ⟨rfl, rfl⟩
    rw [HE.out.1]
    go_wp2_with fail
    refine (WeekOne_any _ _ (by omega) (by omega)).mono ?_; rintro e w1 ⟨rfl, hb1⟩
    have HB1 := Lib.hid hb1; clear hb1
    go_wp2_with fail
    refine (WeekOne_any _ _ (by omega) (by omega)).mono ?_; rintro e w2 ⟨rfl, hb2⟩
    have HB2 := Lib.hid (thenB HB1.out hb2); clear hb2
    go_wp2_with fail
    go_ret2
    exact ⟨by rw [HE.out.1, HE.out.2]; rfl, HB2.out⟩
set_option maxHeartbeats 2000000 in
theorem refOfWeek_all (y k d : Int) (w : World) : Calls Tryz.prog 50 #[.int .i64 y, .int .i64 k, .int .i64 d] w fun e w' => ∃ r x, e = .returned (.tuple #[.int .i64 r, .int .i64 x]) ∧ OwR y k d r x ∧ Below w.heap.size w w' := by
  rcases (show (y < -20000 ∨ 20000 < y) ∨ (-20000 ≤ y ∧ y ≤ 20000) by omega) with h | ⟨h1, h2⟩
  · have HE := Lib.hid (And.intro (yearE1_out h) (weeksR_out h)); clear h
    go_enter Tryz.func50, Tryz.ntmps50
    go_wp2_with fail
    refine (refWeeks_all _ _).mono ?_; rintro e w1 ⟨rfl, hb1⟩
    rw [HE.out.1, HE.out.2]
    have HB1 := Lib.hid hb1; clear hb1
    go_wp2_with fail
    go_ret2
    exact ⟨0, 4, rfl, .inl ⟨by rw [HE.out.1]; decide, rfl, HE.out.1.symm⟩, HB1.out⟩
  · have HE := Lib.hid (yearE1_in h1 h2)
    have B1 := Dm.w1_bd y (by omega) (by omega)
    have B3 := Dm.weeks_two y
    have hw := weeksR_in h1 h2
    have hw2 : 52 ≤ weeksR y ∧ weeksR y ≤ 53 := by omega
    clear B3 hw
    obtain ⟨K, hK0⟩ : ∃ K, weeksR y = K := ⟨_, rfl⟩
    rw [hK0] at hw2
    have HK := Lib.hid hK0; clear hK0
    rcases (show k < 1 ∨ (1 ≤ k ∧ K < k) ∨ (1 ≤ k ∧ k ≤ K ∧ d < 1) ∨ (1 ≤ k ∧ k ≤ K ∧ 1 ≤ d ∧ 7 < d) ∨ (1 ≤ k ∧ k ≤ K ∧ 1 ≤ d ∧ d ≤ 7) by omega) with g | ⟨g1, g⟩ | ⟨g1, g2, g⟩ | ⟨g1, g2, g3, g⟩ | ⟨g1, g2, g3, g4⟩
    iterate 4
      · go_enter Tryz.func50, Tryz.ntmps50
        go_wp2_with fail
        refine (refWeeks_all _ _).mono ?_; rintro e w1 ⟨rfl, hb1⟩
        rw [HE.out, HK.out]
        have HB1 := Lib.hid hb1; clear hb1
        go_wp2_with fail
        go_ret2
        exact ⟨0, 3, rfl, .inr (.inl ⟨HE.out, by unfold owD; rw [HK.out]; omega, rfl, rfl⟩), HB1.out⟩
    · have hno : ¬ owD y k d := by unfold owD; rw [HK.out]; omega
      have HO := Lib.hid hno; clear hno
      go_enter Tryz.func50, Tryz.ntmps50
      go_wp2_with fail
      refine (refWeeks_all _ _).mono ?_; rintro e w1 ⟨rfl, hb1⟩
      rw [HE.out, HK.out]
      have HB1 := Lib.hid hb1; clear hb1
      go_wp2_with fail
      refine (WeekOne_any _ _ (by omega) (by omega)).mono ?_; rintro e w2 ⟨rfl, hb2⟩
      have HB2 := Lib.hid (thenB HB1.out hb2); clear hb2
      go_wp2_with fail
      refine (there_w _ _).mono ?_; rintro e w' ⟨rfl, rfl⟩
      go_wp2_with fail
      go_ret2
      exact ⟨_, _, rfl, .inr (.inr ⟨HE.out, HO.out, rfl, rfl⟩), HB2.out⟩
end Go.Proofs.YtkfpnlenmdlmjaaGreatDoor
