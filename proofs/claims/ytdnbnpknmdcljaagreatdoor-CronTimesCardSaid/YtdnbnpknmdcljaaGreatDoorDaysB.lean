/- The ten calendars' leap years and beginnings of years, as the program reckons them. -/
import Derived.Test.YtdnbnpknmdcljaaGreatDoorDaysA
namespace Go.Proofs.YtdnbnpknmdcljaaGreatDoor
open Go.RowKit
theorem gStart_bd (y : Int) (h1 : -100000 ≤ y) (h2 : y ≤ 100000) : -37000000 ≤ Dm.start 1 y ∧ Dm.start 1 y ≤ 37000000 := by
  simp only [Dm.start, Dm.gStart, if_true]; omega
set_option maxHeartbeats 400000 in
theorem gregorianLeap_any (y : Int) (w : World) (h1 : -100000 ≤ y) (h2 : y ≤ 100000) : Calls Tryz.prog 65 #[.int .i64 y] w fun e w' => e = .returned (.bool (Dm.leap 1 y)) ∧ w = w' := by
  go_enter Tryz.func65, Tryz.ntmps65
  go_wp2_with (first | (go_at_call 60; refine (mod_any _ _ _ (InI.mk (by omega) (by omega)) (by omega) (by omega)).mono ?_; rintro e w' ⟨rfl, rfl⟩))
  all_goals go_ret
  all_goals exact ⟨retB (by simp_all [Dm.leap, Dm.gLeap]), rfl⟩
set_option maxHeartbeats 400000 in
theorem julianLeap_any (y : Int) (w : World) (h1 : -100000 ≤ y) (h2 : y ≤ 100000) : Calls Tryz.prog 69 #[.int .i64 y] w fun e w' => e = .returned (.bool (Dm.leap 2 y)) ∧ w = w' := by
  go_enter Tryz.func69, Tryz.ntmps69
  go_wp2_with (first | (go_at_call 60; refine (mod_any _ _ _ (InI.mk (by omega) (by omega)) (by omega) (by omega)).mono ?_; rintro e w' ⟨rfl, rfl⟩))
  all_goals go_ret
  all_goals exact ⟨retB (by simp_all [Dm.leap]), rfl⟩
set_option maxHeartbeats 400000 in
theorem copticLeap_any (y : Int) (w : World) (h1 : -100000 ≤ y) (h2 : y ≤ 100000) : Calls Tryz.prog 71 #[.int .i64 y] w fun e w' => e = .returned (.bool (Dm.leap 3 y)) ∧ w = w' := by
  go_enter Tryz.func71, Tryz.ntmps71
  go_wp2_with (first | (go_at_call 60; refine (mod_any _ _ _ (InI.mk (by omega) (by omega)) (by omega) (by omega)).mono ?_; rintro e w' ⟨rfl, rfl⟩))
  all_goals go_ret
  all_goals exact ⟨retB (by simp_all [Dm.leap]), rfl⟩
set_option maxHeartbeats 400000 in
theorem islamicLeap_any (y : Int) (w : World) (h1 : -100000 ≤ y) (h2 : y ≤ 100000) : Calls Tryz.prog 74 #[.int .i64 y] w fun e w' => e = .returned (.bool (Dm.leap 5 y)) ∧ w = w' := by
  go_enter Tryz.func74, Tryz.ntmps74
  go_wp2_with (first | (go_at_call 60; refine (mod_any _ _ _ (InI.mk (by omega) (by omega)) (by omega) (by omega)).mono ?_; rintro e w' ⟨rfl, rfl⟩))
  all_goals go_ret
  all_goals exact ⟨retB (by simp_all [Dm.leap]), rfl⟩
set_option maxHeartbeats 400000 in
theorem persianLeap_any (y : Int) (w : World) (h1 : -100000 ≤ y) (h2 : y ≤ 100000) : Calls Tryz.prog 77 #[.int .i64 y] w fun e w' => e = .returned (.bool (Dm.leap 6 y)) ∧ w = w' := by
  go_enter Tryz.func77, Tryz.ntmps77
  go_wp2_with (first | (go_at_call 60; refine (mod_any _ _ _ (InI.mk (by omega) (by omega)) (by omega) (by omega)).mono ?_; rintro e w' ⟨rfl, rfl⟩))
  all_goals go_ret
  all_goals exact ⟨retB (by simp [Dm.leap]; rw [show (y - 474) % 2820 + 474 + 38 = (y - 474) % 2820 + 512 by omega]), rfl⟩
set_option maxHeartbeats 400000 in
theorem hebrewLeap_any (y : Int) (w : World) (h1 : -100000 ≤ y) (h2 : y ≤ 100000) : Calls Tryz.prog 80 #[.int .i64 y] w fun e w' => e = .returned (.bool (Dm.leap 7 y)) ∧ w = w' := by
  go_enter Tryz.func80, Tryz.ntmps80
  go_wp2_with (first | (go_at_call 60; refine (mod_any _ _ _ (InI.mk (by omega) (by omega)) (by omega) (by omega)).mono ?_; rintro e w' ⟨rfl, rfl⟩))
  all_goals go_ret
  all_goals exact ⟨retB (by simp_all [Dm.leap, Dm.hLeap]), rfl⟩
set_option maxHeartbeats 400000 in
theorem sakaLeap_any (y : Int) (w : World) (h1 : -90000 ≤ y) (h2 : y ≤ 90000) : Calls Tryz.prog 84 #[.int .i64 y] w fun e w' => e = .returned (.bool (Dm.leap 8 y)) ∧ w = w' := by
  go_enter Tryz.func84, Tryz.ntmps84
  go_wp2_with (first | (go_at_call 65; refine (gregorianLeap_any _ _ (by omega) (by omega)).mono ?_; rintro e w' ⟨rfl, rfl⟩))
  all_goals go_ret
  all_goals exact ⟨retB (by simp_all [Dm.leap]), rfl⟩
set_option maxHeartbeats 400000 in
theorem frenchLeap_any (y : Int) (w : World) (h1 : -100000 ≤ y) (h2 : y ≤ 100000) : Calls Tryz.prog 87 #[.int .i64 y] w fun e w' => e = .returned (.bool (Dm.leap 9 y)) ∧ w = w' := by
  go_enter Tryz.func87, Tryz.ntmps87
  go_wp2_with (first | (go_at_call 65; refine (gregorianLeap_any _ _ (by omega) (by omega)).mono ?_; rintro e w' ⟨rfl, rfl⟩) | (go_at_call 60; refine (mod_any _ _ _ (InI.mk (by omega) (by omega)) (by omega) (by omega)).mono ?_; rintro e w' ⟨rfl, rfl⟩))
  all_goals go_ret
  all_goals exact ⟨retB (by simp_all [Dm.leap]), rfl⟩
set_option maxHeartbeats 400000 in
theorem never_any (y : Int) (w : World) : Calls Tryz.prog 89 #[.int .i64 y] w fun e w' => e = .returned (.bool (Dm.leap 10 y)) ∧ w = w' := by
  go_enter Tryz.func89, Tryz.ntmps89
  go_wp2_with (first | (go_at_call 60; refine (mod_any _ _ _ (InI.mk (by omega) (by omega)) (by omega) (by omega)).mono ?_; rintro e w' ⟨rfl, rfl⟩))
  all_goals go_ret
  all_goals exact ⟨retB (by simp_all [Dm.leap]), rfl⟩
set_option maxHeartbeats 400000 in
theorem gregorianStart_any (y : Int) (w : World) (h1 : -100000 ≤ y) (h2 : y ≤ 100000) : Calls Tryz.prog 64 #[.int .i64 y] w fun e w' => e = .returned (.int .i64 (Dm.start 1 y)) ∧ w = w' := by
  go_enter Tryz.func64, Tryz.ntmps64
  go_wp2_with (first | (go_at_call 43; refine (floor_any _ _ _ (InI.mk (by omega) (by omega)) (by omega)).mono ?_; rintro e w' ⟨rfl, rfl⟩) | (go_at_call 60; refine (mod_any _ _ _ (InI.mk (by omega) (by omega)) (by omega) (by omega)).mono ?_; rintro e w' ⟨rfl, rfl⟩))
  all_goals go_ret
  all_goals exact ⟨ret1 (by simp [Dm.start, Dm.gStart]), rfl⟩
set_option maxHeartbeats 400000 in
theorem julianStart_any (y : Int) (w : World) (h1 : -100000 ≤ y) (h2 : y ≤ 100000) : Calls Tryz.prog 68 #[.int .i64 y] w fun e w' => e = .returned (.int .i64 (Dm.start 2 y)) ∧ w = w' := by
  go_enter Tryz.func68, Tryz.ntmps68
  go_wp2_with (first | (go_at_call 43; refine (floor_any _ _ _ (InI.mk (by omega) (by omega)) (by omega)).mono ?_; rintro e w' ⟨rfl, rfl⟩) | (go_at_call 60; refine (mod_any _ _ _ (InI.mk (by omega) (by omega)) (by omega) (by omega)).mono ?_; rintro e w' ⟨rfl, rfl⟩))
  all_goals go_ret
  all_goals exact ⟨ret1 (by simp [Dm.start]), rfl⟩
set_option maxHeartbeats 400000 in
theorem copticStart_any (y : Int) (w : World) (h1 : -100000 ≤ y) (h2 : y ≤ 100000) : Calls Tryz.prog 70 #[.int .i64 y] w fun e w' => e = .returned (.int .i64 (Dm.start 3 y)) ∧ w = w' := by
  go_enter Tryz.func70, Tryz.ntmps70
  go_wp2_with (first | (go_at_call 43; refine (floor_any _ _ _ (InI.mk (by omega) (by omega)) (by omega)).mono ?_; rintro e w' ⟨rfl, rfl⟩) | (go_at_call 60; refine (mod_any _ _ _ (InI.mk (by omega) (by omega)) (by omega) (by omega)).mono ?_; rintro e w' ⟨rfl, rfl⟩))
  all_goals go_ret
  all_goals exact ⟨ret1 (by simp [Dm.start]), rfl⟩
set_option maxHeartbeats 400000 in
theorem islamicStart_any (y : Int) (w : World) (h1 : -100000 ≤ y) (h2 : y ≤ 100000) : Calls Tryz.prog 73 #[.int .i64 y] w fun e w' => e = .returned (.int .i64 (Dm.start 5 y)) ∧ w = w' := by
  go_enter Tryz.func73, Tryz.ntmps73
  go_wp2_with (first | (go_at_call 43; refine (floor_any _ _ _ (InI.mk (by omega) (by omega)) (by omega)).mono ?_; rintro e w' ⟨rfl, rfl⟩) | (go_at_call 60; refine (mod_any _ _ _ (InI.mk (by omega) (by omega)) (by omega) (by omega)).mono ?_; rintro e w' ⟨rfl, rfl⟩))
  all_goals go_ret
  all_goals exact ⟨ret1 (by simp [Dm.start]), rfl⟩
set_option maxHeartbeats 400000 in
theorem persianStart_any (y : Int) (w : World) (h1 : -100000 ≤ y) (h2 : y ≤ 100000) : Calls Tryz.prog 76 #[.int .i64 y] w fun e w' => e = .returned (.int .i64 (Dm.start 6 y)) ∧ w = w' := by
  go_enter Tryz.func76, Tryz.ntmps76
  go_wp2_with (first | (go_at_call 43; refine (floor_any _ _ _ (InI.mk (by omega) (by omega)) (by omega)).mono ?_; rintro e w' ⟨rfl, rfl⟩) | (go_at_call 60; refine (mod_any _ _ _ (InI.mk (by omega) (by omega)) (by omega) (by omega)).mono ?_; rintro e w' ⟨rfl, rfl⟩))
  all_goals go_ret
  all_goals exact ⟨ret1 (by simp [Dm.start]), rfl⟩
set_option maxHeartbeats 400000 in
theorem sakaStart_any (y : Int) (w : World) (h1 : -90000 ≤ y) (h2 : y ≤ 90000) : Calls Tryz.prog 83 #[.int .i64 y] w fun e w' => e = .returned (.int .i64 (Dm.start 8 y)) ∧ w = w' := by
  have b1 := gStart_bd (y + 78) (by omega) (by omega)
  have b2 := gStart_bd 79 (by omega) (by omega)
  go_enter Tryz.func83, Tryz.ntmps83
  go_wp2_with (first | (go_at_call 64; refine (gregorianStart_any _ _ (by omega) (by omega)).mono ?_; rintro e w' ⟨rfl, rfl⟩))
  all_goals go_ret
  all_goals exact ⟨ret1 (by simp [Dm.start]; omega), rfl⟩
set_option maxHeartbeats 400000 in
theorem frenchStart_any (y : Int) (w : World) (h1 : -100000 ≤ y) (h2 : y ≤ 100000) : Calls Tryz.prog 86 #[.int .i64 y] w fun e w' => e = .returned (.int .i64 (Dm.start 9 y)) ∧ w = w' := by
  go_enter Tryz.func86, Tryz.ntmps86
  go_wp2_with (first | (go_at_call 43; refine (floor_any _ _ _ (InI.mk (by omega) (by omega)) (by omega)).mono ?_; rintro e w' ⟨rfl, rfl⟩) | (go_at_call 60; refine (mod_any _ _ _ (InI.mk (by omega) (by omega)) (by omega) (by omega)).mono ?_; rintro e w' ⟨rfl, rfl⟩))
  all_goals go_ret
  all_goals exact ⟨ret1 (by simp [Dm.start]), rfl⟩
set_option maxHeartbeats 400000 in
theorem egyptianStart_any (y : Int) (w : World) (h1 : -100000 ≤ y) (h2 : y ≤ 100000) : Calls Tryz.prog 88 #[.int .i64 y] w fun e w' => e = .returned (.int .i64 (Dm.start 10 y)) ∧ w = w' := by
  go_enter Tryz.func88, Tryz.ntmps88
  go_wp2_with (first | (go_at_call 43; refine (floor_any _ _ _ (InI.mk (by omega) (by omega)) (by omega)).mono ?_; rintro e w' ⟨rfl, rfl⟩) | (go_at_call 60; refine (mod_any _ _ _ (InI.mk (by omega) (by omega)) (by omega) (by omega)).mono ?_; rintro e w' ⟨rfl, rfl⟩))
  all_goals go_ret
  all_goals exact ⟨ret1 (by simp [Dm.start]), rfl⟩
theorem elapsed_bd (y : Int) (h1 : -100000 ≤ y) (h2 : y ≤ 100000) : -40000000 ≤ Dm.elapsed y ∧ Dm.elapsed y ≤ 40000000 := by
  unfold Dm.elapsed Dm.day0 Dm.moons
  generalize hm : (235 * y - 234) / 19 = m
  have : -1300000 ≤ m ∧ m ≤ 1300000 := by omega
  clear hm
  split <;> omega
set_option maxHeartbeats 400000 in
theorem elapsed_any (y : Int) (w : World) (h1 : -100000 ≤ y) (h2 : y ≤ 100000) : Calls Tryz.prog 93 #[.int .i64 y] w fun e w' => e = .returned (.int .i64 (Dm.elapsed y)) ∧ w = w' := by
  go_enter Tryz.func93, Tryz.ntmps93
  go_wp2_with (first | (go_at_call 43; refine (floor_any _ _ _ (InI.mk (by omega) (by omega)) (by omega)).mono ?_; rintro e w' ⟨rfl, rfl⟩) | (go_at_call 60; refine (mod_any _ _ _ (InI.mk (by omega) (by omega)) (by omega) (by omega)).mono ?_; rintro e w' ⟨rfl, rfl⟩))
  all_goals go_ret
  all_goals exact ⟨ret1 (by unfold Dm.elapsed Dm.day0 Dm.moons; split <;> omega), rfl⟩
set_option maxHeartbeats 1000000 in
theorem hebrewStart_any (y : Int) (w : World) (h1 : -90000 ≤ y) (h2 : y ≤ 90000) : Calls Tryz.prog 79 #[.int .i64 y] w fun e w' => e = .returned (.int .i64 (Dm.start 7 y)) ∧ w = w' := by
  have b0 := elapsed_bd (y - 1) (by omega) (by omega)
  have b1 := elapsed_bd y (by omega) (by omega)
  have b2 := elapsed_bd (y + 1) (by omega) (by omega)
  go_enter Tryz.func79, Tryz.ntmps79
  go_wp2_with (go_at_call 93; refine (elapsed_any _ _ (by omega) (by omega)).mono ?_; rintro e w' ⟨rfl, rfl⟩)
  all_goals go_ret
  all_goals exact ⟨ret1 (by simp_all [Dm.start, Dm.hStart]), rfl⟩
end Go.Proofs.YtdnbnpknmdcljaaGreatDoor
