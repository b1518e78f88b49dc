/- The ten calendars' leap years and beginnings of years, as the program reckons them. -/
import Derived.Test.YtbgcccfgcdkmdaaGreatDoorDaysA
namespace Go.Proofs.YtbgcccfgcdkmdaaGreatDoor
open Go.RowKit
theorem gStart_bd (y : Int) (h1 : -100000 ≤ y) (h2 : y ≤ 100000) : -37000000 ≤ Dm.start 1 y ∧ Dm.start 1 y ≤ 37000000 := by
  simp only [Dm.start, Dm.gStart, if_true]; omega
set_option maxHeartbeats 400000 in
theorem gregorianLeap_any (y : Int) (w : World) (h1 : -100000 ≤ y) (h2 : y ≤ 100000) : Calls Tryz.prog 120 #[.int .i64 y] w fun e w' => e = .returned (.bool (Dm.leap 1 y)) ∧ w = w' := by
  go_enter Tryz.func120, Tryz.ntmps120
  go_wp2_with (first | (go_at_call 95; refine (mod_any _ _ _ (InI.mk (by omega) (by omega)) (by omega) (by omega)).mono ?_; rintro e w' ⟨rfl, rfl⟩))
  all_goals go_ret
  all_goals exact ⟨retB (by simp_all [Dm.leap, Dm.gLeap]), rfl⟩
set_option maxHeartbeats 400000 in
theorem julianLeap_any (y : Int) (w : World) (h1 : -100000 ≤ y) (h2 : y ≤ 100000) : Calls Tryz.prog 124 #[.int .i64 y] w fun e w' => e = .returned (.bool (Dm.leap 2 y)) ∧ w = w' := by
  go_enter Tryz.func124, Tryz.ntmps124
  go_wp2_with (first | (go_at_call 95; refine (mod_any _ _ _ (InI.mk (by omega) (by omega)) (by omega) (by omega)).mono ?_; rintro e w' ⟨rfl, rfl⟩))
  all_goals go_ret
  all_goals exact ⟨retB (by simp_all [Dm.leap]), rfl⟩
set_option maxHeartbeats 400000 in
theorem copticLeap_any (y : Int) (w : World) (h1 : -100000 ≤ y) (h2 : y ≤ 100000) : Calls Tryz.prog 126 #[.int .i64 y] w fun e w' => e = .returned (.bool (Dm.leap 3 y)) ∧ w = w' := by
  go_enter Tryz.func126, Tryz.ntmps126
  go_wp2_with (first | (go_at_call 95; refine (mod_any _ _ _ (InI.mk (by omega) (by omega)) (by omega) (by omega)).mono ?_; rintro e w' ⟨rfl, rfl⟩))
  all_goals go_ret
  all_goals exact ⟨retB (by simp_all [Dm.leap]), rfl⟩
set_option maxHeartbeats 400000 in
theorem islamicLeap_any (y : Int) (w : World) (h1 : -100000 ≤ y) (h2 : y ≤ 100000) : Calls Tryz.prog 129 #[.int .i64 y] w fun e w' => e = .returned (.bool (Dm.leap 5 y)) ∧ w = w' := by
  go_enter Tryz.func129, Tryz.ntmps129
  go_wp2_with (first | (go_at_call 95; refine (mod_any _ _ _ (InI.mk (by omega) (by omega)) (by omega) (by omega)).mono ?_; rintro e w' ⟨rfl, rfl⟩))
  all_goals go_ret
  all_goals exact ⟨retB (by simp_all [Dm.leap]), rfl⟩
set_option maxHeartbeats 400000 in
theorem persianLeap_any (y : Int) (w : World) (h1 : -100000 ≤ y) (h2 : y ≤ 100000) : Calls Tryz.prog 132 #[.int .i64 y] w fun e w' => e = .returned (.bool (Dm.leap 6 y)) ∧ w = w' := by
  go_enter Tryz.func132, Tryz.ntmps132
  go_wp2_with (first | (go_at_call 95; refine (mod_any _ _ _ (InI.mk (by omega) (by omega)) (by omega) (by omega)).mono ?_; rintro e w' ⟨rfl, rfl⟩))
  all_goals go_ret
  all_goals exact ⟨retB (by simp [Dm.leap]; rw [show (y - 474) % 2820 + 474 + 38 = (y - 474) % 2820 + 512 by omega]), rfl⟩
set_option maxHeartbeats 400000 in
theorem hebrewLeap_any (y : Int) (w : World) (h1 : -100000 ≤ y) (h2 : y ≤ 100000) : Calls Tryz.prog 135 #[.int .i64 y] w fun e w' => e = .returned (.bool (Dm.leap 7 y)) ∧ w = w' := by
  go_enter Tryz.func135, Tryz.ntmps135
  go_wp2_with (first | (go_at_call 95; refine (mod_any _ _ _ (InI.mk (by omega) (by omega)) (by omega) (by omega)).mono ?_; rintro e w' ⟨rfl, rfl⟩))
  all_goals go_ret
  all_goals exact ⟨retB (by simp_all [Dm.leap, Dm.hLeap]), rfl⟩
set_option maxHeartbeats 400000 in
theorem sakaLeap_any (y : Int) (w : World) (h1 : -90000 ≤ y) (h2 : y ≤ 90000) : Calls Tryz.prog 139 #[.int .i64 y] w fun e w' => e = .returned (.bool (Dm.leap 8 y)) ∧ w = w' := by
  go_enter Tryz.func139, Tryz.ntmps139
  go_wp2_with (first | (go_at_call 120; refine (gregorianLeap_any _ _ (by omega) (by omega)).mono ?_; rintro e w' ⟨rfl, rfl⟩))
  all_goals go_ret
  all_goals exact ⟨retB (by simp_all [Dm.leap]), rfl⟩
set_option maxHeartbeats 400000 in
theorem frenchLeap_any (y : Int) (w : World) (h1 : -100000 ≤ y) (h2 : y ≤ 100000) : Calls Tryz.prog 142 #[.int .i64 y] w fun e w' => e = .returned (.bool (Dm.leap 9 y)) ∧ w = w' := by
  go_enter Tryz.func142, Tryz.ntmps142
  go_wp2_with (first | (go_at_call 120; refine (gregorianLeap_any _ _ (by omega) (by omega)).mono ?_; rintro e w' ⟨rfl, rfl⟩) | (go_at_call 95; refine (mod_any _ _ _ (InI.mk (by omega) (by omega)) (by omega) (by omega)).mono ?_; rintro e w' ⟨rfl, rfl⟩))
  all_goals go_ret
  all_goals exact ⟨retB (by simp_all [Dm.leap]), rfl⟩
set_option maxHeartbeats 400000 in
theorem never_any (y : Int) (w : World) : Calls Tryz.prog 144 #[.int .i64 y] w fun e w' => e = .returned (.bool (Dm.leap 10 y)) ∧ w = w' := by
  go_enter Tryz.func144, Tryz.ntmps144
  go_wp2_with (first | (go_at_call 95; refine (mod_any _ _ _ (InI.mk (by omega) (by omega)) (by omega) (by omega)).mono ?_; rintro e w' ⟨rfl, rfl⟩))
  all_goals go_ret
  all_goals exact ⟨retB (by simp_all [Dm.leap]), rfl⟩
set_option maxHeartbeats 400000 in
theorem gregorianStart_any (y : Int) (w : World) (h1 : -100000 ≤ y) (h2 : y ≤ 100000) : Calls Tryz.prog 119 #[.int .i64 y] w fun e w' => e = .returned (.int .i64 (Dm.start 1 y)) ∧ w = w' := by
  go_enter Tryz.func119, Tryz.ntmps119
  go_wp2_with (first | (go_at_call 92; refine (floor_any _ _ _ (InI.mk (by omega) (by omega)) (by omega)).mono ?_; rintro e w' ⟨rfl, rfl⟩) | (go_at_call 95; refine (mod_any _ _ _ (InI.mk (by omega) (by omega)) (by omega) (by omega)).mono ?_; rintro e w' ⟨rfl, rfl⟩))
  all_goals go_ret
  all_goals exact ⟨ret1 (by simp [Dm.start, Dm.gStart]), rfl⟩
set_option maxHeartbeats 400000 in
theorem julianStart_any (y : Int) (w : World) (h1 : -100000 ≤ y) (h2 : y ≤ 100000) : Calls Tryz.prog 123 #[.int .i64 y] w fun e w' => e = .returned (.int .i64 (Dm.start 2 y)) ∧ w = w' := by
  go_enter Tryz.func123, Tryz.ntmps123
  go_wp2_with (first | (go_at_call 92; refine (floor_any _ _ _ (InI.mk (by omega) (by omega)) (by omega)).mono ?_; rintro e w' ⟨rfl, rfl⟩) | (go_at_call 95; refine (mod_any _ _ _ (InI.mk (by omega) (by omega)) (by omega) (by omega)).mono ?_; rintro e w' ⟨rfl, rfl⟩))
  all_goals go_ret
  all_goals exact ⟨ret1 (by simp [Dm.start]), rfl⟩
set_option maxHeartbeats 400000 in
theorem copticStart_any (y : Int) (w : World) (h1 : -100000 ≤ y) (h2 : y ≤ 100000) : Calls Tryz.prog 125 #[.int .i64 y] w fun e w' => e = .returned (.int .i64 (Dm.start 3 y)) ∧ w = w' := by
  go_enter Tryz.func125, Tryz.ntmps125
  go_wp2_with (first | (go_at_call 92; refine (floor_any _ _ _ (InI.mk (by omega) (by omega)) (by omega)).mono ?_; rintro e w' ⟨rfl, rfl⟩) | (go_at_call 95; refine (mod_any _ _ _ (InI.mk (by omega) (by omega)) (by omega) (by omega)).mono ?_; rintro e w' ⟨rfl, rfl⟩))
  all_goals go_ret
  all_goals exact ⟨ret1 (by simp [Dm.start]), rfl⟩
set_option maxHeartbeats 400000 in
theorem islamicStart_any (y : Int) (w : World) (h1 : -100000 ≤ y) (h2 : y ≤ 100000) : Calls Tryz.prog 128 #[.int .i64 y] w fun e w' => e = .returned (.int .i64 (Dm.start 5 y)) ∧ w = w' := by
  go_enter Tryz.func128, Tryz.ntmps128
  go_wp2_with (first | (go_at_call 92; refine (floor_any _ _ _ (InI.mk (by omega) (by omega)) (by omega)).mono ?_; rintro e w' ⟨rfl, rfl⟩) | (go_at_call 95; refine (mod_any _ _ _ (InI.mk (by omega) (by omega)) (by omega) (by omega)).mono ?_; rintro e w' ⟨rfl, rfl⟩))
  all_goals go_ret
  all_goals exact ⟨ret1 (by simp [Dm.start]), rfl⟩
set_option maxHeartbeats 400000 in
theorem persianStart_any (y : Int) (w : World) (h1 : -100000 ≤ y) (h2 : y ≤ 100000) : Calls Tryz.prog 131 #[.int .i64 y] w fun e w' => e = .returned (.int .i64 (Dm.start 6 y)) ∧ w = w' := by
  go_enter Tryz.func131, Tryz.ntmps131
  go_wp2_with (first | (go_at_call 92; refine (floor_any _ _ _ (InI.mk (by omega) (by omega)) (by omega)).mono ?_; rintro e w' ⟨rfl, rfl⟩) | (go_at_call 95; refine (mod_any _ _ _ (InI.mk (by omega) (by omega)) (by omega) (by omega)).mono ?_; rintro e w' ⟨rfl, rfl⟩))
  all_goals go_ret
  all_goals exact ⟨ret1 (by simp [Dm.start]), rfl⟩
set_option maxHeartbeats 400000 in
theorem sakaStart_any (y : Int) (w : World) (h1 : -90000 ≤ y) (h2 : y ≤ 90000) : Calls Tryz.prog 138 #[.int .i64 y] w fun e w' => e = .returned (.int .i64 (Dm.start 8 y)) ∧ w = w' := by
  have b1 := gStart_bd (y + 78) (by omega) (by omega)
  have b2 := gStart_bd 79 (by omega) (by omega)
  go_enter Tryz.func138, Tryz.ntmps138
  go_wp2_with (first | (go_at_call 119; refine (gregorianStart_any _ _ (by omega) (by omega)).mono ?_; rintro e w' ⟨rfl, rfl⟩))
  all_goals go_ret
  all_goals exact ⟨ret1 (by simp [Dm.start]; omega), rfl⟩
set_option maxHeartbeats 400000 in
theorem frenchStart_any (y : Int) (w : World) (h1 : -100000 ≤ y) (h2 : y ≤ 100000) : Calls Tryz.prog 141 #[.int .i64 y] w fun e w' => e = .returned (.int .i64 (Dm.start 9 y)) ∧ w = w' := by
  go_enter Tryz.func141, Tryz.ntmps141
  go_wp2_with (first | (go_at_call 92; refine (floor_any _ _ _ (InI.mk (by omega) (by omega)) (by omega)).mono ?_; rintro e w' ⟨rfl, rfl⟩) | (go_at_call 95; refine (mod_any _ _ _ (InI.mk (by omega) (by omega)) (by omega) (by omega)).mono ?_; rintro e w' ⟨rfl, rfl⟩))
  all_goals go_ret
  all_goals exact ⟨ret1 (by simp [Dm.start]), rfl⟩
set_option maxHeartbeats 400000 in
theorem egyptianStart_any (y : Int) (w : World) (h1 : -100000 ≤ y) (h2 : y ≤ 100000) : Calls Tryz.prog 143 #[.int .i64 y] w fun e w' => e = .returned (.int .i64 (Dm.start 10 y)) ∧ w = w' := by
  go_enter Tryz.func143, Tryz.ntmps143
  go_wp2_with (first | (go_at_call 92; refine (floor_any _ _ _ (InI.mk (by omega) (by omega)) (by omega)).mono ?_; rintro e w' ⟨rfl, rfl⟩) | (go_at_call 95; refine (mod_any _ _ _ (InI.mk (by omega) (by omega)) (by omega) (by omega)).mono ?_; rintro e w' ⟨rfl, rfl⟩))
  all_goals go_ret
  all_goals exact ⟨ret1 (by simp [Dm.start]), rfl⟩
theorem elapsed_bd (y : Int) (h1 : -100000 ≤ y) (h2 : y ≤ 100000) : -40000000 ≤ Dm.elapsed y ∧ Dm.elapsed y ≤ 40000000 := by
  unfold Dm.elapsed Dm.day0 Dm.moons
  generalize hm : (235 * y - 234) / 19 = m
  have : -1300000 ≤ m ∧ m ≤ 1300000 := by omega
  clear hm
  split <;> omega
set_option maxHeartbeats 400000 in
theorem elapsed_any (y : Int) (w : World) (h1 : -100000 ≤ y) (h2 : y ≤ 100000) : Calls Tryz.prog 149 #[.int .i64 y] w fun e w' => e = .returned (.int .i64 (Dm.elapsed y)) ∧ w = w' := by
  go_enter Tryz.func149, Tryz.ntmps149
  go_wp2_with (first | (go_at_call 92; refine (floor_any _ _ _ (InI.mk (by omega) (by omega)) (by omega)).mono ?_; rintro e w' ⟨rfl, rfl⟩) | (go_at_call 95; refine (mod_any _ _ _ (InI.mk (by omega) (by omega)) (by omega) (by omega)).mono ?_; rintro e w' ⟨rfl, rfl⟩))
  all_goals go_ret
  all_goals exact ⟨ret1 (by unfold Dm.elapsed Dm.day0 Dm.moons; split <;> omega), rfl⟩
set_option maxHeartbeats 1000000 in
theorem hebrewStart_any (y : Int) (w : World) (h1 : -90000 ≤ y) (h2 : y ≤ 90000) : Calls Tryz.prog 134 #[.int .i64 y] w fun e w' => e = .returned (.int .i64 (Dm.start 7 y)) ∧ w = w' := by
  have b0 := elapsed_bd (y - 1) (by omega) (by omega)
  have b1 := elapsed_bd y (by omega) (by omega)
  have b2 := elapsed_bd (y + 1) (by omega) (by omega)
  go_enter Tryz.func134, Tryz.ntmps134
  go_wp2_with (go_at_call 149; refine (elapsed_any _ _ (by omega) (by omega)).mono ?_; rintro e w' ⟨rfl, rfl⟩)
  all_goals go_ret
  all_goals exact ⟨ret1 (by simp_all [Dm.start, Dm.hStart]), rfl⟩
end Go.Proofs.YtbgcccfgcdkmdaaGreatDoor
