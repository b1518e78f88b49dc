/- The document's Gregorian date of a day. Times, their days and clocks: the document's. Adding periods: the document's. -/
import Derived.Test.YtkfpnlenmdlmjaaGreatDoorZG8
import Derived.Test.YtkfpnlenmdlmjaaGreatDoorZG7
import Derived.Test.YtkfpnlenmdlmjaaGreatDoorZG11
namespace Go.Proofs.YtkfpnlenmdlmjaaGreatDoor
open Go.RowKit
theorem there_r (n : Int) (w : World) : Calls Tryz.prog 27 #[.int .i64 n] w fun e w' => e = .returned (.tuple #[.int .i64 (rangeR n), .int .i64 (rangeE n)]) ∧ w = w' := there_any n w
end Go.Proofs.YtkfpnlenmdlmjaaGreatDoor
namespace Go.Proofs.YtkfpnlenmdlmjaaGreatDoor
open Go.RowKit
/-- The day of any number of seconds, as the document reckons it, also beyond the ends. -/
def flD (t : Int) : Int := wrap64 ((wrap64 (t - t % 86400)).tdiv 86400)
theorem flD_iff {t : Int} (ht : InI t) : (-4000000 ≤ flD t ∧ flD t ≤ 4000000) ↔ (-345600000000 ≤ t ∧ t ≤ 345600086399) := by
  obtain ⟨a1, a2⟩ := ht
  have h1 := tdiv_fact (wrap64 (t - t % 86400)) 86400
  have h2 := tmod_fact (wrap64 (t - t % 86400)) 86400 (by omega)
  have hw : wrap64 (t - t % 86400) = t - t % 86400 ∨ wrap64 (t - t % 86400) = t - t % 86400 + 18446744073709551616 ∧ t < -9000000000000000000 := by
    unfold wrap64; omega
  have hr : -9223372036854775808 ≤ wrap64 (t - t % 86400) ∧ wrap64 (t - t % 86400) ≤ 9223372036854775807 := by unfold wrap64; omega
  have hd : flD t = (wrap64 (t - t % 86400)).tdiv 86400 := tdiv_in ⟨hr.1, hr.2⟩ (by omega)
  rw [hd]
  generalize (wrap64 (t - t % 86400)).tdiv 86400 = q at h1 ⊢
  generalize (wrap64 (t - t % 86400)).tmod 86400 = r at h1 h2
  generalize wrap64 (t - t % 86400) = x at h1 hw hr
  have : t % 86400 = t - 86400 * (t / 86400) := by omega
  omega
set_option maxHeartbeats 400000 in
theorem FloorDay_any (t : Int) (w : World) : Calls Tryz.prog 67 #[.int .i64 t, .int .i64 86400] w fun e w' => e = .returned (.int .i64 (flD t)) ∧ w = w' := by
  have hr : -9223372036854775808 ≤ wrap64 (t - t % 86400) ∧ wrap64 (t - t % 86400) ≤ 9223372036854775807 := by unfold wrap64; omega
  have hd : flD t = (wrap64 (t - t % 86400)).tdiv 86400 := tdiv_in ⟨hr.1, hr.2⟩ (by omega)
  have HD := Lib.hid hd
  have HT := Lib.hid (show flD t = wrap64 ((wrap64 (t - t % 86400)).tdiv 86400) from rfl)
  clear hr hd
  go_enter Tryz.func67, Tryz.ntmps67
  go_wp2_with (go_at_call 68; refine (Mod_any _ _ _ (by omega) (by omega)).mono ?_; rintro e w' ⟨rfl, rfl⟩)
  go_ret
  exact ⟨ret1 (by first | exact HT.out.symm | exact HD.out.symm), rfl⟩
set_option maxRecDepth 100000 in
set_option maxHeartbeats 400000 in
theorem localOK_any (t : Int) (w : World) (ht : InI t) : Calls Tryz.prog 71 #[.int .i64 t] w fun e w' => e = .returned (.bool (decide (-345600000000 ≤ t) && decide (t ≤ 345600086399))) ∧ w = w' := by
  have hi := flD_iff ht
  obtain ⟨F, hF⟩ : ∃ F, flD t = F := ⟨_, rfl⟩
  rw [hF] at hi
  have HF := Lib.hid (And.intro hF hi); clear hF hi ht
  go_enter Tryz.func71, Tryz.ntmps71
  go_wp2_with (go_at_call 67; refine (FloorDay_any _ _).mono ?_; rintro e w' ⟨rfl, rfl⟩; rw [HF.out.1])
  all_goals go_ret
  all_goals exact ⟨retB (by have := HF.out.2; simp_all <;> omega), rfl⟩
set_option maxRecDepth 100000 in
set_option maxHeartbeats 1000000 in
theorem refSplit_all (t : Int) (w : World) (ht : InI t) : Calls Tryz.prog 57 #[.int .i64 t] w fun e w' => e = .returned (.tuple #[.int .i64 (locD t), .int .i64 (locS t), .int .i64 (locE t)]) ∧ w = w' := by
  have HI := Lib.hid ht; clear ht
  rcases loc_ways t with h | ⟨h1, h2⟩
  · rw [(loc_out h).1, (loc_out h).2.1, (loc_out h).2.2]
    have hb : (decide (-345600000000 ≤ t) && decide (t ≤ 345600086399)) = false := by simp; omega
    clear h
    go_enter Tryz.func57, Tryz.ntmps57
    go_wp2_with fail
    refine (localOK_any _ _ HI.out).mono ?_; rintro e w' ⟨rfl, rfl⟩
    rw [hb]
    go_wp2_with fail
    exact bodyPost_ret (v := .tuple #[.int .i64 0, .int .i64 0, .int .i64 4]) (by simp [results, Tryz.results57, go_sem]) rfl ⟨rfl, rfl⟩
  · rw [(loc_in h1 h2).1, (loc_in h1 h2).2.1, (loc_in h1 h2).2.2]
    have hb : (decide (-345600000000 ≤ t) && decide (t ≤ 345600086399)) = true := by simp; omega
    go_enter Tryz.func57, Tryz.ntmps57
    go_wp2_with fail
    refine (localOK_any _ _ HI.out).mono ?_; rintro e w' ⟨rfl, rfl⟩
    rw [hb]
    go_wp2_with fail
    refine (Floor_any _ _ _ (by omega) (by omega) (by omega) (by omega)).mono ?_; rintro e w' ⟨rfl, rfl⟩
    go_wp2_with fail
    refine (Mod_any _ _ _ (by omega) (by omega)).mono ?_; rintro e w' ⟨rfl, rfl⟩
    go_wp2_with fail
    exact bodyPost_ret (v := .tuple #[.int .i64 (t / 86400), .int .i64 (t % 86400), .int .i64 0]) (by simp [results, Tryz.results57, go_sem]) rfl ⟨rfl, rfl⟩
end Go.Proofs.YtkfpnlenmdlmjaaGreatDoor
namespace Go.Proofs.YtkfpnlenmdlmjaaGreatDoor
open Go.RowKit
def SmallPost (Y M W D S : Int) (w : World) (e : Ending) (w' : World) : Prop := ((e = .returned (.bool true) ∧ Small (pf Y M W D S)) ∨ (e = .returned (.bool false) ∧ ¬ Small (pf Y M W D S))) ∧ Below w.heap.size w w'
set_option maxRecDepth 100000 in
set_option maxHeartbeats 2000000 in
theorem small_any (Y M W D S : Int) (w : World) : Calls Tryz.prog 66 #[.agg #[.int .i64 Y, .int .i64 M, .int .i64 W, .int .i64 D, .int .i64 S]] w (SmallPost Y M W D S w) := by
  go_enter Tryz.func66, Tryz.ntmps66
  go_wp2_with fail
  have hc : Hid (∀ i, i < 5 → ((w.alloc (.cells #[.int .i64 Y, .int .i64 M, .int .i64 W, .int .i64 D, .int .i64 S] 43)).alloc (.cells #[.int .i64 Y, .int .i64 M, .int .i64 W, .int .i64 D, .int .i64 S] 3)).cell? ⟨w.heap.size + 1, i, none⟩ = some (.int .i64 (pf Y M W D S i))) :=
    Lib.hid fun i hi => by
      have := five_cells Y M W D S (w.alloc (.cells #[.int .i64 Y, .int .i64 M, .int .i64 W, .int .i64 D, .int .i64 S] 43)) 3 i hi
      rw [World.size_alloc] at this
      exact this
  go_loop [17] (fun i => ∃ k : Nat, k ≤ 5 ∧ i = .int .i64 k ∧ Hid (∀ i, i < k → -1000000000000 ≤ pf Y M W D S i ∧ pf Y M W D S i ≤ 1000000000000)) (fun i => 5 - (intOf i).toNat)
  case atStart => exact ⟨0, by omega, rfl, Lib.hid (fun i hi => absurd hi (Nat.not_lt_zero i))⟩
  case round =>
    obtain ⟨k, hk, rfl, HS⟩ := hrel
    by_cases hlt : k < 5
    · have hcell := hc.out k hlt
      obtain ⟨F, hF⟩ : ∃ F, pf Y M W D S k = F := ⟨_, rfl⟩
      rw [hF] at hcell
      have HF := Lib.hid hF; clear hF
      rcases (show F < -1000000000000 ∨ (¬ F < -1000000000000 ∧ 1000000000000 < F) ∨ (-1000000000000 ≤ F ∧ F ≤ 1000000000000) by omega) with g | ⟨g1, g⟩ | ⟨g1, g2⟩
      · go_wp2_with fail
        go_ret
        exact ⟨.inr ⟨rfl, fun h => by have := h k hlt; rw [HF.out] at this; omega⟩, ((Below.refl _ _).alloc (by omega) _).alloc (by simp) _⟩
      · go_wp2_with fail
        go_ret
        exact ⟨.inr ⟨rfl, fun h => by have := h k hlt; rw [HF.out] at this; omega⟩, ((Below.refl _ _).alloc (by omega) _).alloc (by simp) _⟩
      · have HS2 : Hid (∀ i, i < k + 1 → -1000000000000 ≤ pf Y M W D S i ∧ pf Y M W D S i ≤ 1000000000000) := by
          refine Lib.hid fun i hi => ?_
          by_cases h : i = k
          · rw [h, HF.out]; exact ⟨g1, g2⟩
          · exact HS.out i (by omega)
        go_wp2_with fail
        go_round
        case rel => exact ⟨k + 1, by omega, by go_num, HS2⟩
        case measure => simp [intOf]; omega
    · obtain rfl : k = 5 := by omega
      go_wp2_with fail
      go_ret
      exact ⟨.inl ⟨rfl, HS.out⟩, ((Below.refl _ _).alloc (by omega) _).alloc (by simp) _⟩
end Go.Proofs.YtkfpnlenmdlmjaaGreatDoor
