/- On which day a year begins, as the document reckons it: year by year. -/
import Derived.Test.YtbgcccfgcdkmdaaGreatDoorDaysJ
namespace Go.Proofs.YtbgcccfgcdkmdaaGreatDoor
open Go.RowKit
set_option maxHeartbeats 1000000 in
theorem YearStart_7 (y : Int) (w : World) (h1 : -20000 ≤ y) (h2 : y ≤ 20001) : Calls Tryz.prog 52 #[.int .i64 7, .int .i64 y] w fun e w' => e = .returned (.int .i64 (Dm.first 7 + Dm.start 7 y)) ∧ Below w.heap.size w w' := by
  have b1 := Dm.start_bd 7 y (by omega) (by omega) (by omega) (by omega)
  have b2 := Dm.first_bd 7
  go_enter Tryz.func52, Tryz.ntmps52
  go_wp2_with fail
  refine (first_any _ _ (by omega) (by omega)).mono ?_; rintro e w1 ⟨rfl, hb1⟩
  have HB1 := Lib.hid hb1; clear hb1
  go_wp2_with fail
  refine (hebrew_any _ _ (by omega) (by omega)).mono ?_; rintro e w' ⟨rfl, rfl⟩
  go_wp2_with fail
  go_ret
  exact ⟨rfl, HB1.out⟩
set_option maxHeartbeats 1000000 in
theorem YearStart_1 (y : Int) (w : World) (h1 : -25000 ≤ y) (h2 : y ≤ 25000) : Calls Tryz.prog 52 #[.int .i64 1, .int .i64 y] w fun e w' => e = .returned (.int .i64 (Dm.first 1 + Dm.start 1 y)) ∧ Below w.heap.size w w' := by
  have b2 := Dm.first_bd 1
  go_enter Tryz.func52, Tryz.ntmps52
  go_wp2_with fail
  refine (first_any _ _ (by omega) (by omega)).mono ?_; rintro e w1 ⟨rfl, hb1⟩
  have HB1 := Lib.hid hb1; clear hb1
  go_wp2_with (go_at_call 50; refine (Floor_any _ _ _ (by omega) (by omega) (by omega) (by omega)).mono ?_; rintro e w' ⟨rfl, rfl⟩)
  go_ret
  exact ⟨ret1 (by simp only [Dm.start, Dm.gStart]; simp; omega), HB1.out⟩
set_option maxHeartbeats 2000000 in
theorem YearStart_2 (y : Int) (w : World) (h1 : -20000 ≤ y) (h2 : y ≤ 20001) : Calls Tryz.prog 52 #[.int .i64 2, .int .i64 y] w fun e w' => e = .returned (.int .i64 (Dm.first 2 + Dm.start 2 y)) ∧ Below w.heap.size w w' := by
  have b2 := Dm.first_bd 2
  obtain ⟨k, hk0⟩ : ∃ k, (y - 1) / 4 = k := ⟨_, rfl⟩
  have k1 : 4 * k ≤ y - 1 := by omega
  have k2 : y - 1 < 4 * k + 4 := by omega
  have hfin := Dm.start_round 2 (y - k * 4) k (by omega) (by omega) (by omega)
  have hone := Dm.start_one 2 (by omega) (by omega) (by omega)
  have HF := Lib.hid (And.intro hfin hone); clear hfin hone
  have hkd := Lib.hid hk0
  clear hk0
  go_enter Tryz.func52, Tryz.ntmps52
  go_wp2_with fail
  refine (round_any _ _ (by omega) (by omega)).mono ?_; rintro e w' ⟨rfl, rfl⟩
  rw [show Dm.roundN 2 = 4 from rfl, show Dm.roundD 2 = 1461 from rfl]
  go_wp2_with fail
  refine (Floor_any _ _ _ (by omega) (by omega) (by omega) (by omega)).mono ?_; rintro e w' ⟨rfl, rfl⟩
  rw [hkd.out]
  go_wp2_with fail
  refine (first_any _ _ (by omega) (by omega)).mono ?_; rintro e w1 ⟨rfl, hb1⟩
  have HB1 := Lib.hid hb1; clear hb1
  go_wp2_with fail
  go_loopw [8, 9] (fun d x wr => ∃ t : Nat, (t : Int) + 1 ≤ y - k * 4 ∧ x = .int .i64 (t + 1) ∧ d = .int .i64 (Dm.first 2 + k * 1461 + Dm.start 2 (t + 1)) ∧ Below w.heap.size w wr) (fun _ x _ => 5 - (intOf x).toNat)
  case atStart => exact ⟨0, by omega, rfl, by rw [show ((0 : Nat) : Int) + 1 = 1 from rfl, HF.out.2]; simp, HB1.out⟩
  case round =>
    obtain ⟨t, ht, rfl, rfl, hW⟩ := hrel
    have HW := Lib.hid hW; clear hW
    have b3 := Dm.start_bd 2 (t + 1) (by omega) (by omega) (by omega) (by omega)
    have b4 := Dm.days_bd 2 (t + 1) (by omega) (by omega) (by omega) (by omega)
    by_cases hlt : (t : Int) + 1 < y - k * 4
    · have HY : Hid (Dm.yearDays 2 (t + 1) = Dm.start 2 (t + 1 + 1) - Dm.start 2 (t + 1)) := Lib.hid rfl
      go_wp2_with fail
      refine (YearDays_any _ _ _ (by omega) (by omega) (by omega) (by omega)).mono ?_; rintro e w2 ⟨rfl, hb2⟩
      have HB2 := Lib.hid (thenB HW.out hb2); clear hb2
      go_wp2_with fail
      go_roundw
      case rel => exact ⟨t + 1, by omega, by go_num, by have := HY.out; rw [this]; push_cast; congr 1; omega, HB2.out⟩
      case measure => simp [intOf]; omega
    · have ht' : (t : Int) + 1 = y - k * 4 := by omega
      have HT := Lib.hid ht'; clear ht'
      go_wp2_with fail
      go_ret
      exact ⟨ret1 (by rw [HT.out]; have := HF.out.1; rw [show y - k * 4 + k * Dm.roundN 2 = y by rw [show Dm.roundN 2 = 4 from rfl]; omega] at this; rw [this, show Dm.roundD 2 = 1461 from rfl]; omega), HW.out⟩
set_option maxHeartbeats 2000000 in
theorem YearStart_3 (y : Int) (w : World) (h1 : -20000 ≤ y) (h2 : y ≤ 20001) : Calls Tryz.prog 52 #[.int .i64 3, .int .i64 y] w fun e w' => e = .returned (.int .i64 (Dm.first 3 + Dm.start 3 y)) ∧ Below w.heap.size w w' := by
  have b2 := Dm.first_bd 3
  obtain ⟨k, hk0⟩ : ∃ k, (y - 1) / 4 = k := ⟨_, rfl⟩
  have k1 : 4 * k ≤ y - 1 := by omega
  have k2 : y - 1 < 4 * k + 4 := by omega
  have hfin := Dm.start_round 3 (y - k * 4) k (by omega) (by omega) (by omega)
  have hone := Dm.start_one 3 (by omega) (by omega) (by omega)
  have HF := Lib.hid (And.intro hfin hone); clear hfin hone
  have hkd := Lib.hid hk0
  clear hk0
  go_enter Tryz.func52, Tryz.ntmps52
  go_wp2_with fail
  refine (round_any _ _ (by omega) (by omega)).mono ?_; rintro e w' ⟨rfl, rfl⟩
  rw [show Dm.roundN 3 = 4 from rfl, show Dm.roundD 3 = 1461 from rfl]
  go_wp2_with fail
  refine (Floor_any _ _ _ (by omega) (by omega) (by omega) (by omega)).mono ?_; rintro e w' ⟨rfl, rfl⟩
  rw [hkd.out]
  go_wp2_with fail
  refine (first_any _ _ (by omega) (by omega)).mono ?_; rintro e w1 ⟨rfl, hb1⟩
  have HB1 := Lib.hid hb1; clear hb1
  go_wp2_with fail
  go_loopw [8, 9] (fun d x wr => ∃ t : Nat, (t : Int) + 1 ≤ y - k * 4 ∧ x = .int .i64 (t + 1) ∧ d = .int .i64 (Dm.first 3 + k * 1461 + Dm.start 3 (t + 1)) ∧ Below w.heap.size w wr) (fun _ x _ => 5 - (intOf x).toNat)
  case atStart => exact ⟨0, by omega, rfl, by rw [show ((0 : Nat) : Int) + 1 = 1 from rfl, HF.out.2]; simp, HB1.out⟩
  case round =>
    obtain ⟨t, ht, rfl, rfl, hW⟩ := hrel
    have HW := Lib.hid hW; clear hW
    have b3 := Dm.start_bd 3 (t + 1) (by omega) (by omega) (by omega) (by omega)
    have b4 := Dm.days_bd 3 (t + 1) (by omega) (by omega) (by omega) (by omega)
    by_cases hlt : (t : Int) + 1 < y - k * 4
    · have HY : Hid (Dm.yearDays 3 (t + 1) = Dm.start 3 (t + 1 + 1) - Dm.start 3 (t + 1)) := Lib.hid rfl
      go_wp2_with fail
      refine (YearDays_any _ _ _ (by omega) (by omega) (by omega) (by omega)).mono ?_; rintro e w2 ⟨rfl, hb2⟩
      have HB2 := Lib.hid (thenB HW.out hb2); clear hb2
      go_wp2_with fail
      go_roundw
      case rel => exact ⟨t + 1, by omega, by go_num, by have := HY.out; rw [this]; push_cast; congr 1; omega, HB2.out⟩
      case measure => simp [intOf]; omega
    · have ht' : (t : Int) + 1 = y - k * 4 := by omega
      have HT := Lib.hid ht'; clear ht'
      go_wp2_with fail
      go_ret
      exact ⟨ret1 (by rw [HT.out]; have := HF.out.1; rw [show y - k * 4 + k * Dm.roundN 3 = y by rw [show Dm.roundN 3 = 4 from rfl]; omega] at this; rw [this, show Dm.roundD 3 = 1461 from rfl]; omega), HW.out⟩
set_option maxHeartbeats 2000000 in
theorem YearStart_4 (y : Int) (w : World) (h1 : -20000 ≤ y) (h2 : y ≤ 20001) : Calls Tryz.prog 52 #[.int .i64 4, .int .i64 y] w fun e w' => e = .returned (.int .i64 (Dm.first 4 + Dm.start 4 y)) ∧ Below w.heap.size w w' := by
  have b2 := Dm.first_bd 4
  obtain ⟨k, hk0⟩ : ∃ k, (y - 1) / 4 = k := ⟨_, rfl⟩
  have k1 : 4 * k ≤ y - 1 := by omega
  have k2 : y - 1 < 4 * k + 4 := by omega
  have hfin := Dm.start_round 4 (y - k * 4) k (by omega) (by omega) (by omega)
  have hone := Dm.start_one 4 (by omega) (by omega) (by omega)
  have HF := Lib.hid (And.intro hfin hone); clear hfin hone
  have hkd := Lib.hid hk0
  clear hk0
  go_enter Tryz.func52, Tryz.ntmps52
  go_wp2_with fail
  refine (round_any _ _ (by omega) (by omega)).mono ?_; rintro e w' ⟨rfl, rfl⟩
  rw [show Dm.roundN 4 = 4 from rfl, show Dm.roundD 4 = 1461 from rfl]
  go_wp2_with fail
  refine (Floor_any _ _ _ (by omega) (by omega) (by omega) (by omega)).mono ?_; rintro e w' ⟨rfl, rfl⟩
  rw [hkd.out]
  go_wp2_with fail
  refine (first_any _ _ (by omega) (by omega)).mono ?_; rintro e w1 ⟨rfl, hb1⟩
  have HB1 := Lib.hid hb1; clear hb1
  go_wp2_with fail
  go_loopw [8, 9] (fun d x wr => ∃ t : Nat, (t : Int) + 1 ≤ y - k * 4 ∧ x = .int .i64 (t + 1) ∧ d = .int .i64 (Dm.first 4 + k * 1461 + Dm.start 4 (t + 1)) ∧ Below w.heap.size w wr) (fun _ x _ => 5 - (intOf x).toNat)
  case atStart => exact ⟨0, by omega, rfl, by rw [show ((0 : Nat) : Int) + 1 = 1 from rfl, HF.out.2]; simp, HB1.out⟩
  case round =>
    obtain ⟨t, ht, rfl, rfl, hW⟩ := hrel
    have HW := Lib.hid hW; clear hW
    have b3 := Dm.start_bd 4 (t + 1) (by omega) (by omega) (by omega) (by omega)
    have b4 := Dm.days_bd 4 (t + 1) (by omega) (by omega) (by omega) (by omega)
    by_cases hlt : (t : Int) + 1 < y - k * 4
    · have HY : Hid (Dm.yearDays 4 (t + 1) = Dm.start 4 (t + 1 + 1) - Dm.start 4 (t + 1)) := Lib.hid rfl
      go_wp2_with fail
      refine (YearDays_any _ _ _ (by omega) (by omega) (by omega) (by omega)).mono ?_; rintro e w2 ⟨rfl, hb2⟩
      have HB2 := Lib.hid (thenB HW.out hb2); clear hb2
      go_wp2_with fail
      go_roundw
      case rel => exact ⟨t + 1, by omega, by go_num, by have := HY.out; rw [this]; push_cast; congr 1; omega, HB2.out⟩
      case measure => simp [intOf]; omega
    · have ht' : (t : Int) + 1 = y - k * 4 := by omega
      have HT := Lib.hid ht'; clear ht'
      go_wp2_with fail
      go_ret
      exact ⟨ret1 (by rw [HT.out]; have := HF.out.1; rw [show y - k * 4 + k * Dm.roundN 4 = y by rw [show Dm.roundN 4 = 4 from rfl]; omega] at this; rw [this, show Dm.roundD 4 = 1461 from rfl]; omega), HW.out⟩
set_option maxHeartbeats 2000000 in
theorem YearStart_5 (y : Int) (w : World) (h1 : -20000 ≤ y) (h2 : y ≤ 20001) : Calls Tryz.prog 52 #[.int .i64 5, .int .i64 y] w fun e w' => e = .returned (.int .i64 (Dm.first 5 + Dm.start 5 y)) ∧ Below w.heap.size w w' := by
  have b2 := Dm.first_bd 5
  obtain ⟨k, hk0⟩ : ∃ k, (y - 1) / 30 = k := ⟨_, rfl⟩
  have k1 : 30 * k ≤ y - 1 := by omega
  have k2 : y - 1 < 30 * k + 30 := by omega
  have hfin := Dm.start_round 5 (y - k * 30) k (by omega) (by omega) (by omega)
  have hone := Dm.start_one 5 (by omega) (by omega) (by omega)
  have HF := Lib.hid (And.intro hfin hone); clear hfin hone
  have hkd := Lib.hid hk0
  clear hk0
  go_enter Tryz.func52, Tryz.ntmps52
  go_wp2_with fail
  refine (round_any _ _ (by omega) (by omega)).mono ?_; rintro e w' ⟨rfl, rfl⟩
  rw [show Dm.roundN 5 = 30 from rfl, show Dm.roundD 5 = 10631 from rfl]
  go_wp2_with fail
  refine (Floor_any _ _ _ (by omega) (by omega) (by omega) (by omega)).mono ?_; rintro e w' ⟨rfl, rfl⟩
  rw [hkd.out]
  go_wp2_with fail
  refine (first_any _ _ (by omega) (by omega)).mono ?_; rintro e w1 ⟨rfl, hb1⟩
  have HB1 := Lib.hid hb1; clear hb1
  go_wp2_with fail
  go_loopw [8, 9] (fun d x wr => ∃ t : Nat, (t : Int) + 1 ≤ y - k * 30 ∧ x = .int .i64 (t + 1) ∧ d = .int .i64 (Dm.first 5 + k * 10631 + Dm.start 5 (t + 1)) ∧ Below w.heap.size w wr) (fun _ x _ => 31 - (intOf x).toNat)
  case atStart => exact ⟨0, by omega, rfl, by rw [show ((0 : Nat) : Int) + 1 = 1 from rfl, HF.out.2]; simp, HB1.out⟩
  case round =>
    obtain ⟨t, ht, rfl, rfl, hW⟩ := hrel
    have HW := Lib.hid hW; clear hW
    have b3 := Dm.start_bd 5 (t + 1) (by omega) (by omega) (by omega) (by omega)
    have b4 := Dm.days_bd 5 (t + 1) (by omega) (by omega) (by omega) (by omega)
    by_cases hlt : (t : Int) + 1 < y - k * 30
    · have HY : Hid (Dm.yearDays 5 (t + 1) = Dm.start 5 (t + 1 + 1) - Dm.start 5 (t + 1)) := Lib.hid rfl
      go_wp2_with fail
      refine (YearDays_any _ _ _ (by omega) (by omega) (by omega) (by omega)).mono ?_; rintro e w2 ⟨rfl, hb2⟩
      have HB2 := Lib.hid (thenB HW.out hb2); clear hb2
      go_wp2_with fail
      go_roundw
      case rel => exact ⟨t + 1, by omega, by go_num, by have := HY.out; rw [this]; push_cast; congr 1; omega, HB2.out⟩
      case measure => simp [intOf]; omega
    · have ht' : (t : Int) + 1 = y - k * 30 := by omega
      have HT := Lib.hid ht'; clear ht'
      go_wp2_with fail
      go_ret
      exact ⟨ret1 (by rw [HT.out]; have := HF.out.1; rw [show y - k * 30 + k * Dm.roundN 5 = y by rw [show Dm.roundN 5 = 30 from rfl]; omega] at this; rw [this, show Dm.roundD 5 = 10631 from rfl]; omega), HW.out⟩
set_option maxHeartbeats 2000000 in
theorem YearStart_6 (y : Int) (w : World) (h1 : -20000 ≤ y) (h2 : y ≤ 20001) : Calls Tryz.prog 52 #[.int .i64 6, .int .i64 y] w fun e w' => e = .returned (.int .i64 (Dm.first 6 + Dm.start 6 y)) ∧ Below w.heap.size w w' := by
  have b2 := Dm.first_bd 6
  obtain ⟨k, hk0⟩ : ∃ k, (y - 1) / 2820 = k := ⟨_, rfl⟩
  have k1 : 2820 * k ≤ y - 1 := by omega
  have k2 : y - 1 < 2820 * k + 2820 := by omega
  have hfin := Dm.start_round 6 (y - k * 2820) k (by omega) (by omega) (by omega)
  have hone := Dm.start_one 6 (by omega) (by omega) (by omega)
  have HF := Lib.hid (And.intro hfin hone); clear hfin hone
  have hkd := Lib.hid hk0
  clear hk0
  go_enter Tryz.func52, Tryz.ntmps52
  go_wp2_with fail
  refine (round_any _ _ (by omega) (by omega)).mono ?_; rintro e w' ⟨rfl, rfl⟩
  rw [show Dm.roundN 6 = 2820 from rfl, show Dm.roundD 6 = 1029983 from rfl]
  go_wp2_with fail
  refine (Floor_any _ _ _ (by omega) (by omega) (by omega) (by omega)).mono ?_; rintro e w' ⟨rfl, rfl⟩
  rw [hkd.out]
  go_wp2_with fail
  refine (first_any _ _ (by omega) (by omega)).mono ?_; rintro e w1 ⟨rfl, hb1⟩
  have HB1 := Lib.hid hb1; clear hb1
  go_wp2_with fail
  go_loopw [8, 9] (fun d x wr => ∃ t : Nat, (t : Int) + 1 ≤ y - k * 2820 ∧ x = .int .i64 (t + 1) ∧ d = .int .i64 (Dm.first 6 + k * 1029983 + Dm.start 6 (t + 1)) ∧ Below w.heap.size w wr) (fun _ x _ => 2821 - (intOf x).toNat)
  case atStart => exact ⟨0, by omega, rfl, by rw [show ((0 : Nat) : Int) + 1 = 1 from rfl, HF.out.2]; simp, HB1.out⟩
  case round =>
    obtain ⟨t, ht, rfl, rfl, hW⟩ := hrel
    have HW := Lib.hid hW; clear hW
    have b3 := Dm.start_bd 6 (t + 1) (by omega) (by omega) (by omega) (by omega)
    have b4 := Dm.days_bd 6 (t + 1) (by omega) (by omega) (by omega) (by omega)
    by_cases hlt : (t : Int) + 1 < y - k * 2820
    · have HY : Hid (Dm.yearDays 6 (t + 1) = Dm.start 6 (t + 1 + 1) - Dm.start 6 (t + 1)) := Lib.hid rfl
      go_wp2_with fail
      refine (YearDays_any _ _ _ (by omega) (by omega) (by omega) (by omega)).mono ?_; rintro e w2 ⟨rfl, hb2⟩
      have HB2 := Lib.hid (thenB HW.out hb2); clear hb2
      go_wp2_with fail
      go_roundw
      case rel => exact ⟨t + 1, by omega, by go_num, by have := HY.out; rw [this]; push_cast; congr 1; omega, HB2.out⟩
      case measure => simp [intOf]; omega
    · have ht' : (t : Int) + 1 = y - k * 2820 := by omega
      have HT := Lib.hid ht'; clear ht'
      go_wp2_with fail
      go_ret
      exact ⟨ret1 (by rw [HT.out]; have := HF.out.1; rw [show y - k * 2820 + k * Dm.roundN 6 = y by rw [show Dm.roundN 6 = 2820 from rfl]; omega] at this; rw [this, show Dm.roundD 6 = 1029983 from rfl]; omega), HW.out⟩
set_option maxHeartbeats 2000000 in
theorem YearStart_8 (y : Int) (w : World) (h1 : -20000 ≤ y) (h2 : y ≤ 20001) : Calls Tryz.prog 52 #[.int .i64 8, .int .i64 y] w fun e w' => e = .returned (.int .i64 (Dm.first 8 + Dm.start 8 y)) ∧ Below w.heap.size w w' := by
  have b2 := Dm.first_bd 8
  obtain ⟨k, hk0⟩ : ∃ k, (y - 1) / 400 = k := ⟨_, rfl⟩
  have k1 : 400 * k ≤ y - 1 := by omega
  have k2 : y - 1 < 400 * k + 400 := by omega
  have hfin := Dm.start_round 8 (y - k * 400) k (by omega) (by omega) (by omega)
  have hone := Dm.start_one 8 (by omega) (by omega) (by omega)
  have HF := Lib.hid (And.intro hfin hone); clear hfin hone
  have hkd := Lib.hid hk0
  clear hk0
  go_enter Tryz.func52, Tryz.ntmps52
  go_wp2_with fail
  refine (round_any _ _ (by omega) (by omega)).mono ?_; rintro e w' ⟨rfl, rfl⟩
  rw [show Dm.roundN 8 = 400 from rfl, show Dm.roundD 8 = 146097 from rfl]
  go_wp2_with fail
  refine (Floor_any _ _ _ (by omega) (by omega) (by omega) (by omega)).mono ?_; rintro e w' ⟨rfl, rfl⟩
  rw [hkd.out]
  go_wp2_with fail
  refine (first_any _ _ (by omega) (by omega)).mono ?_; rintro e w1 ⟨rfl, hb1⟩
  have HB1 := Lib.hid hb1; clear hb1
  go_wp2_with fail
  go_loopw [8, 9] (fun d x wr => ∃ t : Nat, (t : Int) + 1 ≤ y - k * 400 ∧ x = .int .i64 (t + 1) ∧ d = .int .i64 (Dm.first 8 + k * 146097 + Dm.start 8 (t + 1)) ∧ Below w.heap.size w wr) (fun _ x _ => 401 - (intOf x).toNat)
  case atStart => exact ⟨0, by omega, rfl, by rw [show ((0 : Nat) : Int) + 1 = 1 from rfl, HF.out.2]; simp, HB1.out⟩
  case round =>
    obtain ⟨t, ht, rfl, rfl, hW⟩ := hrel
    have HW := Lib.hid hW; clear hW
    have b3 := Dm.start_bd 8 (t + 1) (by omega) (by omega) (by omega) (by omega)
    have b4 := Dm.days_bd 8 (t + 1) (by omega) (by omega) (by omega) (by omega)
    by_cases hlt : (t : Int) + 1 < y - k * 400
    · have HY : Hid (Dm.yearDays 8 (t + 1) = Dm.start 8 (t + 1 + 1) - Dm.start 8 (t + 1)) := Lib.hid rfl
      go_wp2_with fail
      refine (YearDays_any _ _ _ (by omega) (by omega) (by omega) (by omega)).mono ?_; rintro e w2 ⟨rfl, hb2⟩
      have HB2 := Lib.hid (thenB HW.out hb2); clear hb2
      go_wp2_with fail
      go_roundw
      case rel => exact ⟨t + 1, by omega, by go_num, by have := HY.out; rw [this]; push_cast; congr 1; omega, HB2.out⟩
      case measure => simp [intOf]; omega
    · have ht' : (t : Int) + 1 = y - k * 400 := by omega
      have HT := Lib.hid ht'; clear ht'
      go_wp2_with fail
      go_ret
      exact ⟨ret1 (by rw [HT.out]; have := HF.out.1; rw [show y - k * 400 + k * Dm.roundN 8 = y by rw [show Dm.roundN 8 = 400 from rfl]; omega] at this; rw [this, show Dm.roundD 8 = 146097 from rfl]; omega), HW.out⟩
set_option maxHeartbeats 2000000 in
theorem YearStart_9 (y : Int) (w : World) (h1 : -20000 ≤ y) (h2 : y ≤ 20001) : Calls Tryz.prog 52 #[.int .i64 9, .int .i64 y] w fun e w' => e = .returned (.int .i64 (Dm.first 9 + Dm.start 9 y)) ∧ Below w.heap.size w w' := by
  have b2 := Dm.first_bd 9
  obtain ⟨k, hk0⟩ : ∃ k, (y - 1) / 4000 = k := ⟨_, rfl⟩
  have k1 : 4000 * k ≤ y - 1 := by omega
  have k2 : y - 1 < 4000 * k + 4000 := by omega
  have hfin := Dm.start_round 9 (y - k * 4000) k (by omega) (by omega) (by omega)
  have hone := Dm.start_one 9 (by omega) (by omega) (by omega)
  have HF := Lib.hid (And.intro hfin hone); clear hfin hone
  have hkd := Lib.hid hk0
  clear hk0
  go_enter Tryz.func52, Tryz.ntmps52
  go_wp2_with fail
  refine (round_any _ _ (by omega) (by omega)).mono ?_; rintro e w' ⟨rfl, rfl⟩
  rw [show Dm.roundN 9 = 4000 from rfl, show Dm.roundD 9 = 1460969 from rfl]
  go_wp2_with fail
  refine (Floor_any _ _ _ (by omega) (by omega) (by omega) (by omega)).mono ?_; rintro e w' ⟨rfl, rfl⟩
  rw [hkd.out]
  go_wp2_with fail
  refine (first_any _ _ (by omega) (by omega)).mono ?_; rintro e w1 ⟨rfl, hb1⟩
  have HB1 := Lib.hid hb1; clear hb1
  go_wp2_with fail
  go_loopw [8, 9] (fun d x wr => ∃ t : Nat, (t : Int) + 1 ≤ y - k * 4000 ∧ x = .int .i64 (t + 1) ∧ d = .int .i64 (Dm.first 9 + k * 1460969 + Dm.start 9 (t + 1)) ∧ Below w.heap.size w wr) (fun _ x _ => 4001 - (intOf x).toNat)
  case atStart => exact ⟨0, by omega, rfl, by rw [show ((0 : Nat) : Int) + 1 = 1 from rfl, HF.out.2]; simp, HB1.out⟩
  case round =>
    obtain ⟨t, ht, rfl, rfl, hW⟩ := hrel
    have HW := Lib.hid hW; clear hW
    have b3 := Dm.start_bd 9 (t + 1) (by omega) (by omega) (by omega) (by omega)
    have b4 := Dm.days_bd 9 (t + 1) (by omega) (by omega) (by omega) (by omega)
    by_cases hlt : (t : Int) + 1 < y - k * 4000
    · have HY : Hid (Dm.yearDays 9 (t + 1) = Dm.start 9 (t + 1 + 1) - Dm.start 9 (t + 1)) := Lib.hid rfl
      go_wp2_with fail
      refine (YearDays_any _ _ _ (by omega) (by omega) (by omega) (by omega)).mono ?_; rintro e w2 ⟨rfl, hb2⟩
      have HB2 := Lib.hid (thenB HW.out hb2); clear hb2
      go_wp2_with fail
      go_roundw
      case rel => exact ⟨t + 1, by omega, by go_num, by have := HY.out; rw [this]; push_cast; congr 1; omega, HB2.out⟩
      case measure => simp [intOf]; omega
    · have ht' : (t : Int) + 1 = y - k * 4000 := by omega
      have HT := Lib.hid ht'; clear ht'
      go_wp2_with fail
      go_ret
      exact ⟨ret1 (by rw [HT.out]; have := HF.out.1; rw [show y - k * 4000 + k * Dm.roundN 9 = y by rw [show Dm.roundN 9 = 4000 from rfl]; omega] at this; rw [this, show Dm.roundD 9 = 1460969 from rfl]; omega), HW.out⟩
set_option maxHeartbeats 2000000 in
theorem YearStart_10 (y : Int) (w : World) (h1 : -20000 ≤ y) (h2 : y ≤ 20001) : Calls Tryz.prog 52 #[.int .i64 10, .int .i64 y] w fun e w' => e = .returned (.int .i64 (Dm.first 10 + Dm.start 10 y)) ∧ Below w.heap.size w w' := by
  have b2 := Dm.first_bd 10
  obtain ⟨k, hk0⟩ : ∃ k, y - 1 = k := ⟨_, rfl⟩
  have k1 : 1 * k ≤ y - 1 := by omega
  have k2 : y - 1 < 1 * k + 1 := by omega
  have hfin := Dm.start_round 10 (y - k * 1) k (by omega) (by omega) (by omega)
  have hone := Dm.start_one 10 (by omega) (by omega) (by omega)
  have HF := Lib.hid (And.intro hfin hone); clear hfin hone
  have hkd := Lib.hid hk0
  clear hk0
  go_enter Tryz.func52, Tryz.ntmps52
  go_wp2_with fail
  refine (round_any _ _ (by omega) (by omega)).mono ?_; rintro e w' ⟨rfl, rfl⟩
  rw [show Dm.roundN 10 = 1 from rfl, show Dm.roundD 10 = 365 from rfl]
  go_wp2_with fail
  refine (Floor_one _ _ (by omega) (by omega)).mono ?_; rintro e w' ⟨rfl, rfl⟩
  rw [hkd.out]
  go_wp2_with fail
  refine (first_any _ _ (by omega) (by omega)).mono ?_; rintro e w1 ⟨rfl, hb1⟩
  have HB1 := Lib.hid hb1; clear hb1
  go_wp2_with fail
  go_loopw [8, 9] (fun d x wr => ∃ t : Nat, (t : Int) + 1 ≤ y - k * 1 ∧ x = .int .i64 (t + 1) ∧ d = .int .i64 (Dm.first 10 + k * 365 + Dm.start 10 (t + 1)) ∧ Below w.heap.size w wr) (fun _ x _ => 2 - (intOf x).toNat)
  case atStart => exact ⟨0, by omega, rfl, by rw [show ((0 : Nat) : Int) + 1 = 1 from rfl, HF.out.2]; simp, HB1.out⟩
  case round =>
    obtain ⟨t, ht, rfl, rfl, hW⟩ := hrel
    have HW := Lib.hid hW; clear hW
    have b3 := Dm.start_bd 10 (t + 1) (by omega) (by omega) (by omega) (by omega)
    have b4 := Dm.days_bd 10 (t + 1) (by omega) (by omega) (by omega) (by omega)
    by_cases hlt : (t : Int) + 1 < y - k * 1
    · exfalso; omega
    · have ht' : (t : Int) + 1 = y - k * 1 := by omega
      have HT := Lib.hid ht'; clear ht'
      go_wp2_with fail
      go_ret
      exact ⟨ret1 (by rw [HT.out]; have := HF.out.1; rw [show y - k * 1 + k * Dm.roundN 10 = y by rw [show Dm.roundN 10 = 1 from rfl]; omega] at this; rw [this, show Dm.roundD 10 = 365 from rfl]; omega), HW.out⟩
theorem YearStart_any (c y : Int) (w : World) (c1 : 1 ≤ c) (c2 : c ≤ 10) (h1 : -20000 ≤ y) (h2 : y ≤ 20001) : Calls Tryz.prog 52 #[.int .i64 c, .int .i64 y] w fun e w' => e = .returned (.int .i64 (Dm.first c + Dm.start c y)) ∧ Below w.heap.size w w' := by
  rcases ten c1 c2 with rfl | rfl | rfl | rfl | rfl | rfl | rfl | rfl | rfl | rfl
  · exact YearStart_1 y w (by omega) (by omega)
  · exact YearStart_2 y w h1 h2
  · exact YearStart_3 y w h1 h2
  · exact YearStart_4 y w h1 h2
  · exact YearStart_5 y w h1 h2
  · exact YearStart_6 y w h1 h2
  · exact YearStart_7 y w h1 h2
  · exact YearStart_8 y w h1 h2
  · exact YearStart_9 y w h1 h2
  · exact YearStart_10 y w h1 h2
end Go.Proofs.YtbgcccfgcdkmdaaGreatDoor
