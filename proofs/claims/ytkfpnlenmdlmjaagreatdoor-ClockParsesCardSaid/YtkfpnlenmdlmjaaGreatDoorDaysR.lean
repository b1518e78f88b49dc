/- Weekdays and weeks: from outside, and the document's; the laws DaysWeeks and DaysWeek. -/
import Derived.Test.YtkfpnlenmdlmjaaGreatDoorDaysQ
import Derived.Test.YtkfpnlenmdlmjaaGreatDoorDaysP
namespace Go.Proofs.YtkfpnlenmdlmjaaGreatDoor
open Go.RowKit
set_option maxHeartbeats 400000 in
theorem refWeekday_any (n : Int) (w : World) : Calls Tryz.prog 115 #[.int .i64 n] w fun e w' => e = .returned (.int .i64 (Dm.wd n)) ∧ w = w' := by
  go_enter Tryz.func115, Tryz.ntmps115
  go_wp2_with fail
  refine (Mod_any _ _ _ (by omega) (by omega)).mono ?_; rintro e w' ⟨rfl, rfl⟩
  go_wp2_with fail
  refine (Mod_any _ _ _ (by omega) (by omega)).mono ?_; rintro e w' ⟨rfl, rfl⟩
  go_wp2_with fail
  go_ret
  exact ⟨rfl, rfl⟩
set_option maxHeartbeats 1000000 in
theorem WeekOne_any (y : Int) (w : World) (h1 : -25000 ≤ y) (h2 : y ≤ 25000) : Calls Tryz.prog 89 #[.int .i64 1, .int .i64 y, .int .i64 1] w fun e w' => e = .returned (.int .i64 (Dm.w1 y)) ∧ Below w.heap.size w w' := by
  have b1 := Dm.start_bd 1 y (by omega) (by omega) h1 h2
  obtain ⟨D, hD0⟩ : ∃ D, Dm.start 1 y - 719162 + 3 = D := ⟨_, rfl⟩
  have b2 := Dm.wd_bd D
  have HD := Lib.hid hD0
  have hD1 : -13000000 ≤ D ∧ D ≤ 13000000 := by omega
  have hS : Dm.first 1 + Dm.start 1 y = D - 3 := by rw [show Dm.first 1 = -719162 from rfl]; omega
  have HS := Lib.hid hS
  clear hD0 hS
  go_enter Tryz.func89, Tryz.ntmps89
  go_wp2_with fail
  refine (YearStart_1 _ _ h1 h2).mono ?_; rintro e w1 ⟨rfl, hb1⟩
  rw [HS.out]
  have HB := Lib.hid hb1; clear hb1
  go_wp2_with fail
  go_loop [7] (fun d => ∃ t : Nat, d = .int .i64 (D - t) ∧ (t : Int) ≤ Dm.wd D - 1) (fun d => (intOf d - D + 10).toNat)
  case atStart => exact ⟨0, by simp, by omega⟩
  case round =>
    obtain ⟨t, rfl, ht⟩ := hrel
    have hw : Dm.wd (D - t) = Dm.wd D - t := by unfold Dm.wd at *; omega
    have HW := Lib.hid hw; clear hw
    by_cases hlt : (t : Int) = Dm.wd D - 1
    · have hw1 : Dm.wd (D - (Dm.wd D - 1)) = 1 := by unfold Dm.wd at *; omega
      have HW1 := Lib.hid hw1; clear hw1
      go_wp2_with fail
      refine (refWeekday_any _ _).mono ?_; rintro e w' ⟨rfl, rfl⟩
      rw [HW1.out]
      go_wp2_with fail
      go_ret
      exact ⟨ret1 (by have := HD.out; unfold Dm.w1; rw [this]), HB.out⟩
    · go_wp2_with fail
      refine (refWeekday_any _ _).mono ?_; rintro e w' ⟨rfl, rfl⟩
      rw [HW.out]
      go_wp2_with fail
      go_round
      case rel => exact ⟨t + 1, by push_cast; first | rfl | (congr 1; omega) | congr 1, by omega⟩
      case measure => simp [intOf]; omega
set_option maxHeartbeats 1000000 in
theorem greg_any (n : Int) (w : World) : Calls Tryz.prog 58 #[.int .i64 n] w fun e w' => ∃ a y m d, e = .returned (dateV a y m d) ∧ OfR 1 n a y m d ∧ Below w.heap.size w w' := by
  go_enter Tryz.func58, Tryz.ntmps58
  go_wp2_with fail
  refine (refOf_all _ _ _).mono ?_; rintro en w1 ⟨a, y, m, d, rfl, hR, hb1⟩
  unfold dateV
  have hz1 := hb1.size
  simp only [World.size_alloc] at hz1
  obtain ⟨q1, p1⟩ := carry hb1 w.heap.size (by simp)
  have hs1 : w.heap.size < w1.heap.size := by omega
  have HR := Lib.hid (And.intro hR (offA hb1)); clear hR hb1
  go_wp2_with fail
  refine bodyPost_ret (v := dateV a y m d) (by simp [results, Tryz.results58, go_sem, dateV, q1, hs1]) rfl ⟨a, y, m, d, rfl, HR.out.1, ?_⟩
  repeat (first | with_reducible exact HR.out.2 | (with_reducible refine Below.alloc ?_ (by first | omega | (simp <;> omega)) _) | (with_reducible refine Below.setCell ?_ (by first | omega | (simp <;> omega)) _))
theorem field_year (a y m d : Int) (w : World) : (Instr.field 72 (.agg #[.int .i64 a, .int .i64 y, .int .i64 m, .int .i64 d]) 1).run Tryz.prog w = .ok (.int .i64 y) w := by kernel_rfl
end Go.Proofs.YtkfpnlenmdlmjaaGreatDoor
