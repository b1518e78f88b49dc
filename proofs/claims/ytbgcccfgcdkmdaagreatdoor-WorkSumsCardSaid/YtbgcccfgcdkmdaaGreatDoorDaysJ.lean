/- The document's years: how many days a year has, and on which day it begins. -/
import Derived.Test.YtbgcccfgcdkmdaaGreatDoorDaysI
import Derived.Test.YtbgcccfgcdkmdaaGreatDoorDaysMathB
namespace Go.Proofs.YtbgcccfgcdkmdaaGreatDoor
open Go.RowKit
set_option maxHeartbeats 400000 in
theorem Floor_one (a : Int) (w : World) (h1 : -1000000 ≤ a) (h2 : a ≤ 1000000) : Calls Tryz.prog 50 #[.int .i64 a, .int .i64 1] w fun e w' => e = .returned (.int .i64 a) ∧ w = w' := by
  have ht : a.tmod 1 = 0 := Int.tmod_one a
  have hd : a.tdiv 1 = a := Int.tdiv_one a
  have HT := Lib.hid ht; clear ht
  have HD := Lib.hid hd; clear hd
  go_enter Tryz.func50, Tryz.ntmps50
  go_wp2
  all_goals go_ret
  all_goals exact ⟨ret1 (by simp_all), rfl⟩
set_option maxHeartbeats 400000 in
theorem there_any (n : Int) (w : World) : Calls Tryz.prog 89 #[.int .i64 n] w fun e w' => e = .returned (.tuple #[.int .i64 (if -4000000 ≤ n ∧ n ≤ 4000000 then n else 0), .int .i64 (if -4000000 ≤ n ∧ n ≤ 4000000 then 0 else 4)]) ∧ w = w' := by
  by_cases h : -4000000 ≤ n ∧ n ≤ 4000000
  · obtain ⟨h1, h2⟩ := h
    rw [if_pos ⟨h1, h2⟩, if_pos ⟨h1, h2⟩]
    go_enter Tryz.func89, Tryz.ntmps89
    go_wp2
    go_ret2
    exact ⟨rfl, rfl⟩
  · rw [if_neg h, if_neg h]
    rcases (show n < -4000000 ∨ 4000000 < n by omega) with h1 | h1
    · clear h
      go_enter Tryz.func89, Tryz.ntmps89
      go_wp2
      go_ret2
      exact ⟨rfl, rfl⟩
    · clear h
      have h2 : ¬ n < -4000000 := by omega
      go_enter Tryz.func89, Tryz.ntmps89
      go_wp2
      go_ret2
      exact ⟨rfl, rfl⟩
set_option maxHeartbeats 1000000 in
theorem first_any (c : Int) (w : World) (c1 : 1 ≤ c) (c2 : c ≤ 10) : Calls Tryz.prog 76 #[.int .i64 c] w fun e w' => e = .returned (.int .i64 (Dm.first c)) ∧ Below w.heap.size w w' := by
  rcases ten c1 c2 with rfl | rfl | rfl | rfl | rfl | rfl | rfl | rfl | rfl | rfl
  all_goals
    clear c1 c2
    go_enter Tryz.func76, Tryz.ntmps76
    go_wp2
    go_ret
    exact ⟨rfl, (Below.refl _ _).alloc (Nat.le_refl _) _⟩
set_option maxHeartbeats 1000000 in
theorem round_any (c : Int) (w : World) (c1 : 1 ≤ c) (c2 : c ≤ 10) : Calls Tryz.prog 78 #[.int .i64 c] w fun e w' => e = .returned (.tuple #[.int .i64 (Dm.roundN c), .int .i64 (Dm.roundD c)]) ∧ w = w' := by
  rcases ten c1 c2 with rfl | rfl | rfl | rfl | rfl | rfl | rfl | rfl | rfl | rfl
  all_goals
    clear c1 c2
    go_enter Tryz.func78, Tryz.ntmps78
    go_wp2
    go_ret2
    exact ⟨rfl, rfl⟩
theorem months_nat (c y : Int) : ((Dm.months c y).toNat : Int) = Dm.months c y := by have := Dm.months_lo c y; omega
set_option maxHeartbeats 1000000 in
theorem YearDays_any (c y : Int) (w : World) (c1 : 1 ≤ c) (c2 : c ≤ 10) (h1 : -20090 ≤ y) (h2 : y ≤ 20890) : Calls Tryz.prog 67 #[.int .i64 c, .int .i64 y] w fun e w' => e = .returned (.int .i64 (Dm.yearDays c y)) ∧ Below w.heap.size w w' := by
  have hs := Dm.sum_all c y c1 c2 (by omega) (by omega)
  have HS := Lib.hid hs; clear hs
  go_enter Tryz.func67, Tryz.ntmps67
  go_wp2_with fail
  refine (Lengths_any _ _ _ c1 c2 (by omega) (by omega)).mono ?_; rintro e w1 ⟨B, n, cap, rfl, hn, hB1, hB2, hx, hb⟩
  have hml := Dm.months_lo c y
  have hn13 : n ≤ 13 := by omega
  have HX := Lib.hid (And.intro hn (And.intro hx hb)); clear hn hx hb hml
  go_wp2_with fail
  go_loop [5, 7] (fun t i => ∃ k : Nat, k ≤ n ∧ i = .int .i64 k ∧ t = .int .i64 (Dm.upTo c y k)) (fun _ i => n - (intOf i).toNat)
  case atStart => exact ⟨0, Nat.zero_le _, rfl, rfl⟩
  case round =>
    obtain ⟨k, hk, rfl, rfl⟩ := hrel
    have hbd := Dm.upTo_bd c y k
    have hl := Dm.length_bd c y (k + 1)
    by_cases hlt : k < n
    · have hcell := HX.out.2.1 k hlt
      have HU : Hid (Dm.upTo c y (k + 1) = Dm.upTo c y k + Dm.length c y (k + 1)) := Lib.hid rfl
      go_wp2
      go_round
      case rel => exact ⟨k + 1, by omega, by go_num, by rw [HU.out]⟩
      case measure => simp [intOf]; omega
    · obtain rfl : k = n := by omega
      go_wp2
      go_ret
      exact ⟨ret1 (by rw [← HS.out, ← HX.out.1]; simp), HX.out.2.2⟩
end Go.Proofs.YtbgcccfgcdkmdaaGreatDoor
