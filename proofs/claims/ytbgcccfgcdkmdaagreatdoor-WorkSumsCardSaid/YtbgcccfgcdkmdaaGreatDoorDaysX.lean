/- Easter: from outside, and the document's; the laws DaysEasters and DaysEaster. -/
import Derived.Test.YtbgcccfgcdkmdaaGreatDoorDaysW
namespace Go.Proofs.YtbgcccfgcdkmdaaGreatDoor
open Go.RowKit
theorem easter_all (y : Int) (east : Bool) (w : World) (hr : RomanT w) : Calls Tryz.prog 82 #[.int .i64 y, .bool east] w (EasPost east y w errV) := by
  rcases (show (y < 1 ∨ 20000 < y) ∨ (1 ≤ y ∧ y ≤ 20000) by omega) with h | ⟨h1, h2⟩
  · exact easter_bad y east w h
  · cases east
    · exact easter_west y w hr h1 h2
    · exact easter_east y w hr h1 h2
set_option maxHeartbeats 1000000 in
theorem refEaster_bad (y : Int) (east : Bool) (w : World) (h : y < 1 ∨ 20000 < y) : Calls Tryz.prog 66 #[.int .i64 y, .bool east] w (EasPost east y w (.int .i64)) := by
  rcases h with h | h
  all_goals
    try have h' : ¬ y < 1 := by omega
    go_enter Tryz.func66, Tryz.ntmps66
    go_wp2_with fail
    go_ret2
    exact ⟨0, 4, rfl, .inl ⟨by omega, rfl, rfl⟩, Below.refl _ _⟩
set_option maxRecDepth 100000 in
set_option maxHeartbeats 2000000 in
theorem refEaster_east (y : Int) (w : World) (h1 : 1 ≤ y) (h2 : y ≤ 20000) : Calls Tryz.prog 66 #[.int .i64 y, .bool true] w (EasPost true y w (.int .i64)) := by
  have hb := Dm.full_bd true y h1 h2
  have hep := Dm.ep_bd true y
  rw [show Dm.calE true = 2 from rfl] at hb
  have hd := day419 (c := 2) (y := y) (by omega) (by omega) h1 h2
  obtain ⟨D, hD0⟩ : ∃ D, Dm.dayOf 2 y 4 19 = D := ⟨_, rfl⟩
  rw [hD0] at hb hd
  go_enter Tryz.func66, Tryz.ntmps66
  go_wp2_with (first | (go_at_call 50; refine (Floor_any _ _ _ (by omega) (by omega) (by omega) (by omega)).mono ?_; rintro e w' ⟨rfl, rfl⟩) | (go_at_call 51; refine (Mod_any _ _ _ (by omega) (by omega)).mono ?_; rintro e w' ⟨rfl, rfl⟩))
  obtain ⟨E, hE0⟩ : ∃ E, Dm.ep true y = E := ⟨_, rfl⟩
  rw [show (14 + 11 * (y % 19)) % 30 = E from hE0]
  have hF : Dm.full true y = D - E := by unfold Dm.full; rw [show Dm.calE true = 2 from rfl, hD0, hE0]
  rw [hF] at hb
  rw [hE0] at hep
  have HF := Lib.hid (And.intro hF hD0); clear hF hD0 hE0
  by_cases hg : D ≤ 4000000
  · rw [(range_in (by omega) hg).1, (range_in (by omega) hg).2] at hd
    have HD := Lib.hid hd; clear hd
    refine (refDay_any _ _ _ _ _).mono ?_; rintro en w1 ⟨rfl, hb1⟩
    rw [HD.out.1, HD.out.2]
    have HB1 := Lib.hid hb1; clear hb1
    have hwb := Dm.wd_bd (D - E)
    obtain ⟨W, hW0⟩ : ∃ W, Dm.wd (D - E) = W := ⟨_, rfl⟩
    rw [hW0] at hwb
    have hS : Dm.sunday (Dm.full true y) = D - E + 7 - W % 7 := by rw [HF.out.1]; unfold Dm.sunday; rw [hW0]
    have hWt : ∀ t : Int, 0 ≤ t → t ≤ 6 - W % 7 → (Dm.wd (D - E + 1 + t) = 7 ↔ t = 6 - W % 7) := by intro t t0 t1; rw [← hW0] at t1 ⊢; unfold Dm.wd at *; omega
    have HW := Lib.hid (And.intro hWt hS); clear hW0 hS hWt
    go_wp2_with fail
    go_loop [9] (fun dd => ∃ t : Nat, dd = .int .i64 (D - E + 1 + t) ∧ (t : Int) ≤ 6 - W % 7) (fun dd => (D - E + 20 - intOf dd).toNat)
    case atStart => exact ⟨0, by simp, by omega⟩
    case round =>
      obtain ⟨t, rfl, ht⟩ := hrel
      have hww := HW.out.1 t (by omega) ht
      obtain ⟨V, hV0⟩ : ∃ V, Dm.wd (D - E + 1 + t) = V := ⟨_, rfl⟩
      rw [hV0] at hww
      have HV := Lib.hid hV0; clear hV0
      by_cases hlt : (t : Int) = 6 - W % 7
      · obtain rfl := hww.2 hlt
        have HL := Lib.hid (show D - E + 1 + (t : Int) = D - E + 7 - W % 7 by omega); clear hlt hww
        go_wp2_with fail
        refine (refWeekday_any _ _).mono ?_; rintro e w' ⟨rfl, rfl⟩
        rw [HV.out]
        go_wp2_with fail
        refine (there_w _ _).mono ?_; rintro e w' ⟨rfl, rfl⟩
        go_wp2_with fail
        go_ret2
        exact ⟨_, _, rfl, .inr (.inr ⟨h1, h2, by rw [show Dm.calE true = 2 from rfl, HF.out.2]; exact hg, by rw [HW.out.2, HL.out], by rw [HW.out.2, HL.out]⟩), HB1.out⟩
      · have hV7 : ¬ V = 7 := fun h => hlt (hww.1 h)
        clear hww
        go_wp2_with fail
        refine (refWeekday_any _ _).mono ?_; rintro e w' ⟨rfl, rfl⟩
        rw [HV.out]
        go_wp2_with fail
        go_round
        case rel => exact ⟨t + 1, by first | rfl | (push_cast; congr 1; omega), by omega⟩
        case measure => simp [intOf]; omega
  · rw [(range_out (by omega)).1, (range_out (by omega)).2] at hd
    have HD := Lib.hid hd; clear hd
    refine (refDay_any _ _ _ _ _).mono ?_; rintro en w1 ⟨rfl, hb1⟩
    rw [HD.out.1, HD.out.2]
    have HB1 := Lib.hid hb1; clear hb1
    go_wp2_with fail
    go_ret2
    exact ⟨0, 4, rfl, .inr (.inl ⟨h1, h2, by rw [show Dm.calE true = 2 from rfl, HF.out.2]; omega, rfl, rfl⟩), HB1.out⟩
set_option maxRecDepth 100000 in
set_option maxHeartbeats 4000000 in
theorem refEaster_west (y : Int) (w : World) (h1 : 1 ≤ y) (h2 : y ≤ 20000) : Calls Tryz.prog 66 #[.int .i64 y, .bool false] w (EasPost false y w (.int .i64)) := by
  have hb := Dm.full_bd false y h1 h2
  have hep := Dm.ep_bd false y
  rw [show Dm.calE false = 1 from rfl] at hb
  have hd := day419 (c := 1) (y := y) (by omega) (by omega) h1 h2
  obtain ⟨D, hD0⟩ : ∃ D, Dm.dayOf 1 y 4 19 = D := ⟨_, rfl⟩
  rw [hD0] at hb hd
  obtain ⟨E0, hE00⟩ : ∃ E0, Dm.epW0 y = E0 := ⟨_, rfl⟩
  have hE0b : 0 ≤ E0 ∧ E0 ≤ 29 := by rw [← hE00]; unfold Dm.epW0; omega
  have hep2 : Dm.ep false y = if E0 = 0 ∨ E0 = 1 ∧ 10 < y % 19 then E0 + 1 else E0 := by rw [← hE00]; rfl
  have HE := Lib.hid (show (14 + 11 * (y % 19) - 3 * (y / 100 + 1) / 4 + (5 + 8 * (y / 100 + 1)) / 25) % 30 = E0 from hE00); clear hE00
  rcases (show E0 = 0 ∨ (E0 ≠ 0 ∧ E0 = 1 ∧ 10 < y % 19) ∨ (E0 ≠ 0 ∧ E0 = 1 ∧ ¬ 10 < y % 19) ∨ (E0 ≠ 0 ∧ E0 ≠ 1) by omega) with g | ⟨g0, g1, g2⟩ | ⟨g0, g1, g2⟩ | ⟨g0, g1⟩
  · have hA : (E0 == 0) = true := by simpa using g
    obtain ⟨E, hE1⟩ : ∃ E, E0 + 1 = E := ⟨_, rfl⟩
    have hE0 : Dm.ep false y = E := by rw [hep2, if_pos (by omega)]; exact hE1
    have HE1 := Lib.hid hE1; clear hE1
    clear hep2 g
    go_enter Tryz.func66, Tryz.ntmps66
    go_wp2_with fail
    refine (Mod_any _ _ _ (by omega) (by omega)).mono ?_; rintro e w' ⟨rfl, rfl⟩
    go_wp2_with fail
    refine (Mod_any _ _ _ (by omega) (by omega)).mono ?_; rintro e w' ⟨rfl, rfl⟩
    go_wp2_with fail
    refine (Floor_any _ _ _ (by omega) (by omega) (by omega) (by omega)).mono ?_; rintro e w' ⟨rfl, rfl⟩
    go_wp2_with fail
    refine (Mod_any _ _ _ (by omega) (by omega)).mono ?_; rintro e w' ⟨rfl, rfl⟩
    go_wp2_with fail
    refine (Floor_any _ _ _ (by omega) (by omega) (by omega) (by omega)).mono ?_; rintro e w' ⟨rfl, rfl⟩
    go_wp2_with fail
    refine (Floor_any _ _ _ (by omega) (by omega) (by omega) (by omega)).mono ?_; rintro e w' ⟨rfl, rfl⟩
    go_wp2_with fail
    refine (Mod_any _ _ _ (by omega) (by omega)).mono ?_; rintro e w' ⟨rfl, rfl⟩
    rw [HE.out]
    go_wp2_with (first | (go_at_call 50; refine (Floor_any _ _ _ (by omega) (by omega) (by omega) (by omega)).mono ?_; rintro e w' ⟨rfl, rfl⟩) | (go_at_call 51; refine (Mod_any _ _ _ (by omega) (by omega)).mono ?_; rintro e w' ⟨rfl, rfl⟩))
    rw [HE1.out]
    have hF : Dm.full false y = D - E := by unfold Dm.full; rw [show Dm.calE false = 1 from rfl, hD0, hE0]
    rw [hF] at hb
    rw [hE0] at hep
    have HF := Lib.hid (And.intro hF hD0); clear hF hD0 hE0
    by_cases hg : D ≤ 4000000
    · rw [(range_in (by omega) hg).1, (range_in (by omega) hg).2] at hd
      have HD := Lib.hid hd; clear hd
      refine (refDay_any _ _ _ _ _).mono ?_; rintro en w1 ⟨rfl, hb1⟩
      rw [HD.out.1, HD.out.2]
      have HB1 := Lib.hid hb1; clear hb1
      have hwb := Dm.wd_bd (D - E)
      obtain ⟨W, hW0⟩ : ∃ W, Dm.wd (D - E) = W := ⟨_, rfl⟩
      rw [hW0] at hwb
      have hS : Dm.sunday (Dm.full false y) = D - E + 7 - W % 7 := by rw [HF.out.1]; unfold Dm.sunday; rw [hW0]
      have hWt : ∀ t : Int, 0 ≤ t → t ≤ 6 - W % 7 → (Dm.wd (D - E + 1 + t) = 7 ↔ t = 6 - W % 7) := by intro t t0 t1; rw [← hW0] at t1 ⊢; unfold Dm.wd at *; omega
      have HW := Lib.hid (And.intro hWt hS); clear hW0 hS hWt
      go_wp2_with fail
      go_loop [9] (fun dd => ∃ t : Nat, dd = .int .i64 (D - E + 1 + t) ∧ (t : Int) ≤ 6 - W % 7) (fun dd => (D - E + 20 - intOf dd).toNat)
      case atStart => exact ⟨0, by simp, by omega⟩
      case round =>
        obtain ⟨t, rfl, ht⟩ := hrel
        have hww := HW.out.1 t (by omega) ht
        obtain ⟨V, hV0⟩ : ∃ V, Dm.wd (D - E + 1 + t) = V := ⟨_, rfl⟩
        rw [hV0] at hww
        have HV := Lib.hid hV0; clear hV0
        by_cases hlt : (t : Int) = 6 - W % 7
        · obtain rfl := hww.2 hlt
          have HL := Lib.hid (show D - E + 1 + (t : Int) = D - E + 7 - W % 7 by omega); clear hlt hww
          go_wp2_with fail
          refine (refWeekday_any _ _).mono ?_; rintro e w' ⟨rfl, rfl⟩
          rw [HV.out]
          go_wp2_with fail
          refine (there_w _ _).mono ?_; rintro e w' ⟨rfl, rfl⟩
          go_wp2_with fail
          go_ret2
          exact ⟨_, _, rfl, .inr (.inr ⟨h1, h2, by rw [show Dm.calE false = 1 from rfl, HF.out.2]; exact hg, by rw [HW.out.2, HL.out], by rw [HW.out.2, HL.out]⟩), HB1.out⟩
        · have hV7 : ¬ V = 7 := fun h => hlt (hww.1 h)
          clear hww
          go_wp2_with fail
          refine (refWeekday_any _ _).mono ?_; rintro e w' ⟨rfl, rfl⟩
          rw [HV.out]
          go_wp2_with fail
          go_round
          case rel => exact ⟨t + 1, by first | rfl | (push_cast; congr 1; omega), by omega⟩
          case measure => simp [intOf]; omega
    · rw [(range_out (by omega)).1, (range_out (by omega)).2] at hd
      have HD := Lib.hid hd; clear hd
      refine (refDay_any _ _ _ _ _).mono ?_; rintro en w1 ⟨rfl, hb1⟩
      rw [HD.out.1, HD.out.2]
      have HB1 := Lib.hid hb1; clear hb1
      go_wp2_with fail
      go_ret2
      exact ⟨0, 4, rfl, .inr (.inl ⟨h1, h2, by rw [show Dm.calE false = 1 from rfl, HF.out.2]; omega, rfl, rfl⟩), HB1.out⟩
  · have hA : (E0 == 0) = false := by simpa using g0
    have hB : (E0 == 1) = true := by simpa using g1
    obtain ⟨E, hE1⟩ : ∃ E, E0 + 1 = E := ⟨_, rfl⟩
    have hE0 : Dm.ep false y = E := by rw [hep2, if_pos (by omega)]; exact hE1
    have HE1 := Lib.hid hE1; clear hE1
    clear hep2 g0 g1
    go_enter Tryz.func66, Tryz.ntmps66
    go_wp2_with fail
    refine (Mod_any _ _ _ (by omega) (by omega)).mono ?_; rintro e w' ⟨rfl, rfl⟩
    go_wp2_with fail
    refine (Mod_any _ _ _ (by omega) (by omega)).mono ?_; rintro e w' ⟨rfl, rfl⟩
    go_wp2_with fail
    refine (Floor_any _ _ _ (by omega) (by omega) (by omega) (by omega)).mono ?_; rintro e w' ⟨rfl, rfl⟩
    go_wp2_with fail
    refine (Mod_any _ _ _ (by omega) (by omega)).mono ?_; rintro e w' ⟨rfl, rfl⟩
    go_wp2_with fail
    refine (Floor_any _ _ _ (by omega) (by omega) (by omega) (by omega)).mono ?_; rintro e w' ⟨rfl, rfl⟩
    go_wp2_with fail
    refine (Floor_any _ _ _ (by omega) (by omega) (by omega) (by omega)).mono ?_; rintro e w' ⟨rfl, rfl⟩
    go_wp2_with fail
    refine (Mod_any _ _ _ (by omega) (by omega)).mono ?_; rintro e w' ⟨rfl, rfl⟩
    rw [HE.out]
    go_wp2_with (first | (go_at_call 50; refine (Floor_any _ _ _ (by omega) (by omega) (by omega) (by omega)).mono ?_; rintro e w' ⟨rfl, rfl⟩) | (go_at_call 51; refine (Mod_any _ _ _ (by omega) (by omega)).mono ?_; rintro e w' ⟨rfl, rfl⟩))
    rw [HE1.out]
    have hF : Dm.full false y = D - E := by unfold Dm.full; rw [show Dm.calE false = 1 from rfl, hD0, hE0]
    rw [hF] at hb
    rw [hE0] at hep
    have HF := Lib.hid (And.intro hF hD0); clear hF hD0 hE0
    by_cases hg : D ≤ 4000000
    · rw [(range_in (by omega) hg).1, (range_in (by omega) hg).2] at hd
      have HD := Lib.hid hd; clear hd
      refine (refDay_any _ _ _ _ _).mono ?_; rintro en w1 ⟨rfl, hb1⟩
      rw [HD.out.1, HD.out.2]
      have HB1 := Lib.hid hb1; clear hb1
      have hwb := Dm.wd_bd (D - E)
      obtain ⟨W, hW0⟩ : ∃ W, Dm.wd (D - E) = W := ⟨_, rfl⟩
      rw [hW0] at hwb
      have hS : Dm.sunday (Dm.full false y) = D - E + 7 - W % 7 := by rw [HF.out.1]; unfold Dm.sunday; rw [hW0]
      have hWt : ∀ t : Int, 0 ≤ t → t ≤ 6 - W % 7 → (Dm.wd (D - E + 1 + t) = 7 ↔ t = 6 - W % 7) := by intro t t0 t1; rw [← hW0] at t1 ⊢; unfold Dm.wd at *; omega
      have HW := Lib.hid (And.intro hWt hS); clear hW0 hS hWt
      go_wp2_with fail
      go_loop [9] (fun dd => ∃ t : Nat, dd = .int .i64 (D - E + 1 + t) ∧ (t : Int) ≤ 6 - W % 7) (fun dd => (D - E + 20 - intOf dd).toNat)
      case atStart => exact ⟨0, by simp, by omega⟩
      case round =>
        obtain ⟨t, rfl, ht⟩ := hrel
        have hww := HW.out.1 t (by omega) ht
        obtain ⟨V, hV0⟩ : ∃ V, Dm.wd (D - E + 1 + t) = V := ⟨_, rfl⟩
        rw [hV0] at hww
        have HV := Lib.hid hV0; clear hV0
        by_cases hlt : (t : Int) = 6 - W % 7
        · obtain rfl := hww.2 hlt
          have HL := Lib.hid (show D - E + 1 + (t : Int) = D - E + 7 - W % 7 by omega); clear hlt hww
          go_wp2_with fail
          refine (refWeekday_any _ _).mono ?_; rintro e w' ⟨rfl, rfl⟩
          rw [HV.out]
          go_wp2_with fail
          refine (there_w _ _).mono ?_; rintro e w' ⟨rfl, rfl⟩
          go_wp2_with fail
          go_ret2
          exact ⟨_, _, rfl, .inr (.inr ⟨h1, h2, by rw [show Dm.calE false = 1 from rfl, HF.out.2]; exact hg, by rw [HW.out.2, HL.out], by rw [HW.out.2, HL.out]⟩), HB1.out⟩
        · have hV7 : ¬ V = 7 := fun h => hlt (hww.1 h)
          clear hww
          go_wp2_with fail
          refine (refWeekday_any _ _).mono ?_; rintro e w' ⟨rfl, rfl⟩
          rw [HV.out]
          go_wp2_with fail
          go_round
          case rel => exact ⟨t + 1, by first | rfl | (push_cast; congr 1; omega), by omega⟩
          case measure => simp [intOf]; omega
    · rw [(range_out (by omega)).1, (range_out (by omega)).2] at hd
      have HD := Lib.hid hd; clear hd
      refine (refDay_any _ _ _ _ _).mono ?_; rintro en w1 ⟨rfl, hb1⟩
      rw [HD.out.1, HD.out.2]
      have HB1 := Lib.hid hb1; clear hb1
      go_wp2_with fail
      go_ret2
      exact ⟨0, 4, rfl, .inr (.inl ⟨h1, h2, by rw [show Dm.calE false = 1 from rfl, HF.out.2]; omega, rfl, rfl⟩), HB1.out⟩
  · have hA : (E0 == 0) = false := by simpa using g0
    have hB : (E0 == 1) = true := by simpa using g1
    obtain ⟨E, hE1⟩ : ∃ E, E0 = E := ⟨_, rfl⟩
    have hE0 : Dm.ep false y = E := by rw [hep2, if_neg (by omega)]; exact hE1
    subst hE1
    clear hep2 g0 g1
    go_enter Tryz.func66, Tryz.ntmps66
    go_wp2_with fail
    refine (Mod_any _ _ _ (by omega) (by omega)).mono ?_; rintro e w' ⟨rfl, rfl⟩
    go_wp2_with fail
    refine (Mod_any _ _ _ (by omega) (by omega)).mono ?_; rintro e w' ⟨rfl, rfl⟩
    go_wp2_with fail
    refine (Floor_any _ _ _ (by omega) (by omega) (by omega) (by omega)).mono ?_; rintro e w' ⟨rfl, rfl⟩
    go_wp2_with fail
    refine (Mod_any _ _ _ (by omega) (by omega)).mono ?_; rintro e w' ⟨rfl, rfl⟩
    go_wp2_with fail
    refine (Floor_any _ _ _ (by omega) (by omega) (by omega) (by omega)).mono ?_; rintro e w' ⟨rfl, rfl⟩
    go_wp2_with fail
    refine (Floor_any _ _ _ (by omega) (by omega) (by omega) (by omega)).mono ?_; rintro e w' ⟨rfl, rfl⟩
    go_wp2_with fail
    refine (Mod_any _ _ _ (by omega) (by omega)).mono ?_; rintro e w' ⟨rfl, rfl⟩
    rw [HE.out]
    go_wp2_with (first | (go_at_call 50; refine (Floor_any _ _ _ (by omega) (by omega) (by omega) (by omega)).mono ?_; rintro e w' ⟨rfl, rfl⟩) | (go_at_call 51; refine (Mod_any _ _ _ (by omega) (by omega)).mono ?_; rintro e w' ⟨rfl, rfl⟩))
    have hF : Dm.full false y = D - E0 := by unfold Dm.full; rw [show Dm.calE false = 1 from rfl, hD0, hE0]
    rw [hF] at hb
    rw [hE0] at hep
    have HF := Lib.hid (And.intro hF hD0); clear hF hD0 hE0
    by_cases hg : D ≤ 4000000
    · rw [(range_in (by omega) hg).1, (range_in (by omega) hg).2] at hd
      have HD := Lib.hid hd; clear hd
      refine (refDay_any _ _ _ _ _).mono ?_; rintro en w1 ⟨rfl, hb1⟩
      rw [HD.out.1, HD.out.2]
      have HB1 := Lib.hid hb1; clear hb1
      have hwb := Dm.wd_bd (D - E0)
      obtain ⟨W, hW0⟩ : ∃ W, Dm.wd (D - E0) = W := ⟨_, rfl⟩
      rw [hW0] at hwb
      have hS : Dm.sunday (Dm.full false y) = D - E0 + 7 - W % 7 := by rw [HF.out.1]; unfold Dm.sunday; rw [hW0]
      have hWt : ∀ t : Int, 0 ≤ t → t ≤ 6 - W % 7 → (Dm.wd (D - E0 + 1 + t) = 7 ↔ t = 6 - W % 7) := by intro t t0 t1; rw [← hW0] at t1 ⊢; unfold Dm.wd at *; omega
      have HW := Lib.hid (And.intro hWt hS); clear hW0 hS hWt
      go_wp2_with fail
      go_loop [9] (fun dd => ∃ t : Nat, dd = .int .i64 (D - E0 + 1 + t) ∧ (t : Int) ≤ 6 - W % 7) (fun dd => (D - E0 + 20 - intOf dd).toNat)
      case atStart => exact ⟨0, by simp, by omega⟩
      case round =>
        obtain ⟨t, rfl, ht⟩ := hrel
        have hww := HW.out.1 t (by omega) ht
        obtain ⟨V, hV0⟩ : ∃ V, Dm.wd (D - E0 + 1 + t) = V := ⟨_, rfl⟩
        rw [hV0] at hww
        have HV := Lib.hid hV0; clear hV0
        by_cases hlt : (t : Int) = 6 - W % 7
        · obtain rfl := hww.2 hlt
          have HL := Lib.hid (show D - E0 + 1 + (t : Int) = D - E0 + 7 - W % 7 by omega); clear hlt hww
          go_wp2_with fail
          refine (refWeekday_any _ _).mono ?_; rintro e w' ⟨rfl, rfl⟩
          rw [HV.out]
          go_wp2_with fail
          refine (there_w _ _).mono ?_; rintro e w' ⟨rfl, rfl⟩
          go_wp2_with fail
          go_ret2
          exact ⟨_, _, rfl, .inr (.inr ⟨h1, h2, by rw [show Dm.calE false = 1 from rfl, HF.out.2]; exact hg, by rw [HW.out.2, HL.out], by rw [HW.out.2, HL.out]⟩), HB1.out⟩
        · have hV7 : ¬ V = 7 := fun h => hlt (hww.1 h)
          clear hww
          go_wp2_with fail
          refine (refWeekday_any _ _).mono ?_; rintro e w' ⟨rfl, rfl⟩
          rw [HV.out]
          go_wp2_with fail
          go_round
          case rel => exact ⟨t + 1, by first | rfl | (push_cast; congr 1; omega), by omega⟩
          case measure => simp [intOf]; omega
    · rw [(range_out (by omega)).1, (range_out (by omega)).2] at hd
      have HD := Lib.hid hd; clear hd
      refine (refDay_any _ _ _ _ _).mono ?_; rintro en w1 ⟨rfl, hb1⟩
      rw [HD.out.1, HD.out.2]
      have HB1 := Lib.hid hb1; clear hb1
      go_wp2_with fail
      go_ret2
      exact ⟨0, 4, rfl, .inr (.inl ⟨h1, h2, by rw [show Dm.calE false = 1 from rfl, HF.out.2]; omega, rfl, rfl⟩), HB1.out⟩
  · have hA : (E0 == 0) = false := by simpa using g0
    have hB : (E0 == 1) = false := by simpa using g1
    obtain ⟨E, hE1⟩ : ∃ E, E0 = E := ⟨_, rfl⟩
    have hE0 : Dm.ep false y = E := by rw [hep2, if_neg (by omega)]; exact hE1
    subst hE1
    clear hep2 g0 g1
    go_enter Tryz.func66, Tryz.ntmps66
    go_wp2_with fail
    refine (Mod_any _ _ _ (by omega) (by omega)).mono ?_; rintro e w' ⟨rfl, rfl⟩
    go_wp2_with fail
    refine (Mod_any _ _ _ (by omega) (by omega)).mono ?_; rintro e w' ⟨rfl, rfl⟩
    go_wp2_with fail
    refine (Floor_any _ _ _ (by omega) (by omega) (by omega) (by omega)).mono ?_; rintro e w' ⟨rfl, rfl⟩
    go_wp2_with fail
    refine (Mod_any _ _ _ (by omega) (by omega)).mono ?_; rintro e w' ⟨rfl, rfl⟩
    go_wp2_with fail
    refine (Floor_any _ _ _ (by omega) (by omega) (by omega) (by omega)).mono ?_; rintro e w' ⟨rfl, rfl⟩
    go_wp2_with fail
    refine (Floor_any _ _ _ (by omega) (by omega) (by omega) (by omega)).mono ?_; rintro e w' ⟨rfl, rfl⟩
    go_wp2_with fail
    refine (Mod_any _ _ _ (by omega) (by omega)).mono ?_; rintro e w' ⟨rfl, rfl⟩
    rw [HE.out]
    go_wp2_with (first | (go_at_call 50; refine (Floor_any _ _ _ (by omega) (by omega) (by omega) (by omega)).mono ?_; rintro e w' ⟨rfl, rfl⟩) | (go_at_call 51; refine (Mod_any _ _ _ (by omega) (by omega)).mono ?_; rintro e w' ⟨rfl, rfl⟩))
    have hF : Dm.full false y = D - E0 := by unfold Dm.full; rw [show Dm.calE false = 1 from rfl, hD0, hE0]
    rw [hF] at hb
    rw [hE0] at hep
    have HF := Lib.hid (And.intro hF hD0); clear hF hD0 hE0
    by_cases hg : D ≤ 4000000
    · rw [(range_in (by omega) hg).1, (range_in (by omega) hg).2] at hd
      have HD := Lib.hid hd; clear hd
      refine (refDay_any _ _ _ _ _).mono ?_; rintro en w1 ⟨rfl, hb1⟩
      rw [HD.out.1, HD.out.2]
      have HB1 := Lib.hid hb1; clear hb1
      have hwb := Dm.wd_bd (D - E0)
      obtain ⟨W, hW0⟩ : ∃ W, Dm.wd (D - E0) = W := ⟨_, rfl⟩
      rw [hW0] at hwb
      have hS : Dm.sunday (Dm.full false y) = D - E0 + 7 - W % 7 := by rw [HF.out.1]; unfold Dm.sunday; rw [hW0]
      have hWt : ∀ t : Int, 0 ≤ t → t ≤ 6 - W % 7 → (Dm.wd (D - E0 + 1 + t) = 7 ↔ t = 6 - W % 7) := by intro t t0 t1; rw [← hW0] at t1 ⊢; unfold Dm.wd at *; omega
      have HW := Lib.hid (And.intro hWt hS); clear hW0 hS hWt
      go_wp2_with fail
      go_loop [9] (fun dd => ∃ t : Nat, dd = .int .i64 (D - E0 + 1 + t) ∧ (t : Int) ≤ 6 - W % 7) (fun dd => (D - E0 + 20 - intOf dd).toNat)
      case atStart => exact ⟨0, by simp, by omega⟩
      case round =>
        obtain ⟨t, rfl, ht⟩ := hrel
        have hww := HW.out.1 t (by omega) ht
        obtain ⟨V, hV0⟩ : ∃ V, Dm.wd (D - E0 + 1 + t) = V := ⟨_, rfl⟩
        rw [hV0] at hww
        have HV := Lib.hid hV0; clear hV0
        by_cases hlt : (t : Int) = 6 - W % 7
        · obtain rfl := hww.2 hlt
          have HL := Lib.hid (show D - E0 + 1 + (t : Int) = D - E0 + 7 - W % 7 by omega); clear hlt hww
          go_wp2_with fail
          refine (refWeekday_any _ _).mono ?_; rintro e w' ⟨rfl, rfl⟩
          rw [HV.out]
          go_wp2_with fail
          refine (there_w _ _).mono ?_; rintro e w' ⟨rfl, rfl⟩
          go_wp2_with fail
          go_ret2
          exact ⟨_, _, rfl, .inr (.inr ⟨h1, h2, by rw [show Dm.calE false = 1 from rfl, HF.out.2]; exact hg, by rw [HW.out.2, HL.out], by rw [HW.out.2, HL.out]⟩), HB1.out⟩
        · have hV7 : ¬ V = 7 := fun h => hlt (hww.1 h)
          clear hww
          go_wp2_with fail
          refine (refWeekday_any _ _).mono ?_; rintro e w' ⟨rfl, rfl⟩
          rw [HV.out]
          go_wp2_with fail
          go_round
          case rel => exact ⟨t + 1, by first | rfl | (push_cast; congr 1; omega), by omega⟩
          case measure => simp [intOf]; omega
    · rw [(range_out (by omega)).1, (range_out (by omega)).2] at hd
      have HD := Lib.hid hd; clear hd
      refine (refDay_any _ _ _ _ _).mono ?_; rintro en w1 ⟨rfl, hb1⟩
      rw [HD.out.1, HD.out.2]
      have HB1 := Lib.hid hb1; clear hb1
      go_wp2_with fail
      go_ret2
      exact ⟨0, 4, rfl, .inr (.inl ⟨h1, h2, by rw [show Dm.calE false = 1 from rfl, HF.out.2]; omega, rfl, rfl⟩), HB1.out⟩
end Go.Proofs.YtbgcccfgcdkmdaaGreatDoor
