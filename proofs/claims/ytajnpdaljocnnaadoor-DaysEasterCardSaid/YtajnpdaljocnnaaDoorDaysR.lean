/- Weekdays and weeks: from outside, and the document's; the laws DaysWeeks and DaysWeek. -/
import Derived.Test.YtajnpdaljocnnaaDoorDaysQ
import Derived.Test.YtajnpdaljocnnaaDoorDaysP
namespace Go.Proofs.YtajnpdaljocnnaaDoor
open Go.RowKit
set_option maxHeartbeats 400000 in
theorem plainWeekday (n : Int) (w : World) (hn : InI n) : Calls Tryd.prog 36 #[.int .i64 n] w fun e w' => e = .returned (.int .i64 (Dm.wd n)) ∧ w = w' := by
  have HI := Lib.hid hn; clear hn
  go_enter Tryd.func36, Tryd.ntmps36
  go_wp2_with fail
  refine (weekday_any _ _ HI.out).mono ?_; rintro e w' ⟨rfl, rfl⟩
  go_wp2_with fail
  go_ret
  exact ⟨rfl, rfl⟩
set_option maxHeartbeats 1000000 in
theorem plainWeek (n : Int) (w : World) (hT : ErrT w) (hr : RomanT w) : Calls Tryd.prog 30 #[.int .i64 n] w (WkPost n (.int .i64 (ofE 1 n)) w) := by
  have HT : Hid (ErrT w ∧ RomanT w) := Lib.hid ⟨hT, hr⟩; clear hT hr
  go_enter Tryd.func30, Tryd.ntmps30
  go_wp2_with fail
  refine (week_all _ _ HT.out.2).mono ?_; rintro en w1 ⟨y, k, d, rfl, hR, hb1⟩
  have HR := Lib.hid hR; clear hR
  have hT1 : Hid (ErrT w1) := Lib.hid (HT.out.1.call hb1)
  have HB := Lib.hid hb1; clear hb1
  go_wp2_with fail
  refine (tell_any _ _ hT1.out).mono ?_; rintro en w2 ⟨rfl, hb2⟩
  have HB2 := Lib.hid (thenB HB.out hb2); clear hb2
  go_wp2_with fail
  exact bodyPost_ret (v := .tuple #[.int .i64 y, .int .i64 k, .int .i64 d, .int .i64 (ofE 1 n)]) (by simp [results, Tryd.results30, go_sem]) rfl ⟨y, k, d, rfl, HR.out, HB2.out⟩
set_option maxHeartbeats 1000000 in
theorem plainWeeks (y : Int) (w : World) (hT : ErrT w) : Calls Tryd.prog 32 #[.int .i64 y] w fun e w' => e = .returned (.tuple #[.int .i64 (weeksR y), .int .i64 (yearE 1 y)]) ∧ Below w.heap.size w w' := by
  have HT : Hid (ErrT w) := Lib.hid hT; clear hT
  go_enter Tryd.func32, Tryd.ntmps32
  go_wp2_with fail
  refine (weeks_all _ _).mono ?_; rintro en w1 ⟨rfl, rfl⟩
  go_wp2_with fail
  refine (tell_any _ _ HT.out).mono ?_; rintro en w2 ⟨rfl, hb2⟩
  have HB2 := Lib.hid hb2; clear hb2
  go_wp2_with fail
  go_ret2
  exact ⟨rfl, HB2.out⟩
set_option maxHeartbeats 1000000 in
theorem plainOfWeek (y k d : Int) (w : World) (hT : ErrT w) : Calls Tryd.prog 34 #[.int .i64 y, .int .i64 k, .int .i64 d] w fun e w' => ∃ r x, e = .returned (.tuple #[.int .i64 r, .int .i64 x]) ∧ OwR y k d r x ∧ Below w.heap.size w w' := by
  have HT : Hid (ErrT w) := Lib.hid hT; clear hT
  go_enter Tryd.func34, Tryd.ntmps34
  go_wp2_with fail
  refine (ofWeek_all _ _ _ _).mono ?_; rintro en w1 ⟨r, x, rfl, hR, rfl⟩
  have HR := Lib.hid hR; clear hR
  go_wp2_with fail
  refine (tell_any _ _ HT.out).mono ?_; rintro en w2 ⟨rfl, hb2⟩
  have HB2 := Lib.hid hb2; clear hb2
  go_wp2_with fail
  go_ret2
  exact ⟨r, x, rfl, HR.out, HB2.out⟩
set_option maxHeartbeats 400000 in
theorem refWeekday_any (n : Int) (w : World) : Calls Tryd.prog 37 #[.int .i64 n] w fun e w' => e = .returned (.int .i64 (Dm.wd n)) ∧ w = w' := by
  go_enter Tryd.func37, Tryd.ntmps37
  go_wp2_with fail
  refine (Mod_any _ _ _ (by omega) (by omega)).mono ?_; rintro e w' ⟨rfl, rfl⟩
  go_wp2_with fail
  refine (Mod_any _ _ _ (by omega) (by omega)).mono ?_; rintro e w' ⟨rfl, rfl⟩
  go_wp2_with fail
  go_ret
  exact ⟨rfl, rfl⟩
set_option maxHeartbeats 1000000 in
theorem WeekOne_any (y : Int) (w : World) (h1 : -25000 ≤ y) (h2 : y ≤ 25000) : Calls Tryd.prog 59 #[.int .i64 1, .int .i64 y, .int .i64 1] w fun e w' => e = .returned (.int .i64 (Dm.w1 y)) ∧ Below w.heap.size w w' := by
  have b1 := Dm.start_bd 1 y (by omega) (by omega) h1 h2
  obtain ⟨D, hD0⟩ : ∃ D, Dm.start 1 y - 719162 + 3 = D := ⟨_, rfl⟩
  have b2 := Dm.wd_bd D
  have HD := Lib.hid hD0
  have hD1 : -13000000 ≤ D ∧ D ≤ 13000000 := by omega
  have hS : Dm.first 1 + Dm.start 1 y = D - 3 := by rw [show Dm.first 1 = -719162 from rfl]; omega
  have HS := Lib.hid hS
  clear hD0 hS
  go_enter Tryd.func59, Tryd.ntmps59
  go_wp2_with fail
  refine (YearStart_1 _ _ h1 h2).mono ?_; rintro e w1 ⟨rfl, hb1⟩
  rw [HS.out]
  have HB := Lib.hid hb1; clear hb1
  go_wp2_with fail
  go_loop [7] (fun d => ∃ t : Nat, d = .int .i64 (D - t) ∧ (t : Int) ≤ Dm.wd D - 1) (fun d => (intOf d - D + 10).toNat)
  case atStart => exact ⟨0, by simp, by omega⟩
  case round =>
    obtain ⟨t, rfl, ht⟩ := hrel
    have hw : Dm.wd (D - t) = Dm.wd D - t := by unfold Dm.wd at *; omega
    have HW := Lib.hid hw; clear hw
    by_cases hlt : (t : Int) = Dm.wd D - 1
    · have hw1 : Dm.wd (D - (Dm.wd D - 1)) = 1 := by unfold Dm.wd at *; omega
      have HW1 := Lib.hid hw1; clear hw1
      go_wp2_with fail
      refine (refWeekday_any _ _).mono ?_; rintro e w' ⟨rfl, rfl⟩
      rw [HW1.out]
      go_wp2_with fail
      go_ret
      exact ⟨ret1 (by have := HD.out; unfold Dm.w1; rw [this]), HB.out⟩
    · go_wp2_with fail
      refine (refWeekday_any _ _).mono ?_; rintro e w' ⟨rfl, rfl⟩
      rw [HW.out]
      go_wp2_with fail
      go_round
      case rel => exact ⟨t + 1, by push_cast; first | rfl | (congr 1; omega) | congr 1, by omega⟩
      case measure => simp [intOf]; omega
set_option maxHeartbeats 1000000 in
theorem greg_any (n : Int) (w : World) : Calls Tryd.prog 58 #[.int .i64 n] w fun e w' => ∃ a y m d, e = .returned (dateV a y m d) ∧ OfR 1 n a y m d ∧ Below w.heap.size w w' := by
  go_enter Tryd.func58, Tryd.ntmps58
  go_wp2_with fail
  refine (refOf_all _ _ _).mono ?_; rintro en w1 ⟨a, y, m, d, rfl, hR, hb1⟩
  unfold dateV
  have hz1 := hb1.size
  simp only [World.size_alloc] at hz1
  obtain ⟨q1, p1⟩ := carry hb1 w.heap.size (by simp)
  have hs1 : w.heap.size < w1.heap.size := by omega
  have HR := Lib.hid (And.intro hR (offA hb1)); clear hR hb1
  go_wp2_with fail
  refine bodyPost_ret (v := dateV a y m d) (by simp [results, Tryd.results58, go_sem, dateV, q1, hs1]) rfl ⟨a, y, m, d, rfl, HR.out.1, ?_⟩
  repeat (first | with_reducible exact HR.out.2 | (with_reducible refine Below.alloc ?_ (by first | omega | (simp <;> omega)) _) | (with_reducible refine Below.setCell ?_ (by first | omega | (simp <;> omega)) _))
theorem field_year (a y m d : Int) (w : World) : (Instr.field 35 (.agg #[.int .i64 a, .int .i64 y, .int .i64 m, .int .i64 d]) 1).run Tryd.prog w = .ok (.int .i64 y) w := by kernel_rfl
set_option maxRecDepth 100000 in
set_option maxHeartbeats 2000000 in
theorem refWeek_all (n : Int) (w : World) : Calls Tryd.prog 31 #[.int .i64 n] w (WkPost n (.int .i64 (ofE 1 n)) w) := by
  by_cases hz : ofE 1 n = 0
  · have HZ := Lib.hid hz
    have hn : -4000000 ≤ n ∧ n ≤ 4000000 := by unfold ofE at hz; split at hz; · omega
                                               split at hz <;> omega
    clear hz
    have HN := Lib.hid hn
    obtain ⟨n1, n2⟩ := hn
    have hfy := field_year
    go_enter Tryd.func31, Tryd.ntmps31
    go_wp2_with fail
    refine (there_any _ _).mono ?_; rintro e w' ⟨rfl, rfl⟩
    rw [if_pos HN.out, if_pos HN.out]
    go_wp2_with fail
    refine (greg_any _ _).mono ?_; rintro en w1 ⟨a, y, m, d, rfl, hR, hb1⟩
    unfold dateV
    have hv : Dm.Valid 1 y m d ∧ Dm.dayOf 1 y m d = n := by
      rcases hR with ⟨e, _⟩ | ⟨_, _, _, _, hv, hd⟩
      · exact absurd HZ.out e
      · exact ⟨hv, hd⟩
    obtain ⟨y1, y2, f1, f2⟩ := of_year n1 n2 hv.1 hv.2
    clear hv hR
    have hz1 := hb1.size
    have HB := Lib.hid hb1; clear hb1
    go_wp2_with fail
    go_loopw [2] (fun yy wr => ∃ t : Int, yy = .int .i64 t ∧ y - 1 ≤ t ∧ t ≤ y + 1 ∧ n < Dm.w1 (t + 1) ∧ Hid (Below w.heap.size w wr)) (fun yy _ => (intOf yy - y + 10).toNat)
    case atStart => exact ⟨y + 1, rfl, by omega, by omega, f2, HB⟩
    case round =>
      obtain ⟨t, rfl, t1, t2, ht, HBr⟩ := hrel
      have B0 := Dm.w1_bd t (by omega) (by omega)
      by_cases hgt : n < Dm.w1 t
      · have htl : y ≤ t := by
          by_cases h : t = y - 1
          · rw [h] at hgt; omega
          · omega
        go_wp2_with fail
        refine (WeekOne_any _ _ (by omega) (by omega)).mono ?_; rintro e w2 ⟨rfl, hb2⟩
        have HB2 := Lib.hid (thenB HBr.out hb2); clear hb2
        go_wp2_with fail
        go_roundw
        case rel => exact ⟨t - 1, rfl, by omega, by omega, by rw [show t - 1 + 1 = t by omega]; exact hgt, HB2⟩
        case measure => simp [intOf]; omega
      · go_wp2_with fail
        refine (WeekOne_any _ _ (by omega) (by omega)).mono ?_; rintro e w2 ⟨rfl, hb2⟩
        have HB2 := Lib.hid (thenB HBr.out hb2); clear hb2
        go_wp2_with fail
        refine (WeekOne_any _ _ (by omega) (by omega)).mono ?_; rintro e w3 ⟨rfl, hb3⟩
        have HB3 := Lib.hid (thenB HB2.out hb3); clear hb3
        go_wp2_with fail
        refine (refWeekday_any _ _).mono ?_; rintro e w' ⟨rfl, rfl⟩
        go_wp2_with fail
        exact bodyPost_ret (v := .tuple #[.int .i64 t, .int .i64 ((n - Dm.w1 t) / 7 + 1), .int .i64 (Dm.wd n), .int .i64 0]) (by simp [results, Tryd.results31, go_sem]) rfl ⟨t, _, _, by rw [HZ.out], .inr ⟨HZ.out, by omega, by omega, by omega, ht, rfl, rfl⟩, HB3.out⟩
  · have HE : Hid (ofE 1 n = 4 ∧ ¬ (-4000000 ≤ n ∧ n ≤ 4000000)) := by
      have hn : ¬ (-4000000 ≤ n ∧ n ≤ 4000000) := fun h => hz (ofE_ok (by omega) (by omega) h.1 h.2)
      exact Lib.hid ⟨ofE_range (by omega) (by omega) (by omega), hn⟩
    clear hz
    go_enter Tryd.func31, Tryd.ntmps31
    go_wp2_with fail
    refine (there_any _ _).mono ?_; rintro e w' ⟨rfl, rfl⟩
    rw [if_neg HE.out.2, if_neg HE.out.2]
    go_wp2_with fail
    exact bodyPost_ret (v := .tuple #[.int .i64 0, .int .i64 0, .int .i64 0, .int .i64 4]) (by simp [results, Tryd.results31, go_sem]) rfl ⟨0, 0, 0, by rw [HE.out.1], .inl ⟨by rw [HE.out.1]; decide, rfl, rfl, rfl⟩, Below.refl _ _⟩
end Go.Proofs.YtajnpdaljocnnaaDoor
