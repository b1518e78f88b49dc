/- Times, their days and clocks: the document's. -/
import Derived.Test.YtkfpnlenmdlmjaaGreatDoorClkA
import Derived.Test.YtkfpnlenmdlmjaaGreatDoorClkG
namespace Go.Proofs.YtkfpnlenmdlmjaaGreatDoor
open Go.RowKit
/-- The day of any number of seconds, as the document reckons it, also beyond the ends. -/
def flD (t : Int) : Int := wrap64 ((wrap64 (t - t % 86400)).tdiv 86400)
theorem flD_iff {t : Int} (ht : InI t) : (-4000000 ≤ flD t ∧ flD t ≤ 4000000) ↔ (-345600000000 ≤ t ∧ t ≤ 345600086399) := by
  obtain ⟨a1, a2⟩ := ht
  have h1 := tdiv_fact (wrap64 (t - t % 86400)) 86400
  have h2 := tmod_fact (wrap64 (t - t % 86400)) 86400 (by omega)
  have hw : wrap64 (t - t % 86400) = t - t % 86400 ∨ wrap64 (t - t % 86400) = t - t % 86400 + 18446744073709551616 ∧ t < -9000000000000000000 := by
    unfold wrap64; omega
  have hr : -9223372036854775808 ≤ wrap64 (t - t % 86400) ∧ wrap64 (t - t % 86400) ≤ 9223372036854775807 := by unfold wrap64; omega
  have hd : flD t = (wrap64 (t - t % 86400)).tdiv 86400 := tdiv_in ⟨hr.1, hr.2⟩ (by omega)
  rw [hd]
  generalize (wrap64 (t - t % 86400)).tdiv 86400 = q at h1 ⊢
  generalize (wrap64 (t - t % 86400)).tmod 86400 = r at h1 h2
  generalize wrap64 (t - t % 86400) = x at h1 hw hr
  have : t % 86400 = t - 86400 * (t / 86400) := by omega
  omega
set_option maxHeartbeats 400000 in
theorem FloorDay_any (t : Int) (w : World) : Calls Tryz.prog 67 #[.int .i64 t, .int .i64 86400] w fun e w' => e = .returned (.int .i64 (flD t)) ∧ w = w' := by
  have hr : -9223372036854775808 ≤ wrap64 (t - t % 86400) ∧ wrap64 (t - t % 86400) ≤ 9223372036854775807 := by unfold wrap64; omega
  have hd : flD t = (wrap64 (t - t % 86400)).tdiv 86400 := tdiv_in ⟨hr.1, hr.2⟩ (by omega)
  have HD := Lib.hid hd
  have HT := Lib.hid (show flD t = wrap64 ((wrap64 (t - t % 86400)).tdiv 86400) from rfl)
  clear hr hd
  go_enter Tryz.func67, Tryz.ntmps67
  go_wp2_with (go_at_call 68; refine (Mod_any _ _ _ (by omega) (by omega)).mono ?_; rintro e w' ⟨rfl, rfl⟩)
  go_ret
  exact ⟨ret1 (by first | exact HT.out.symm | exact HD.out.symm), rfl⟩
set_option maxRecDepth 100000 in
set_option maxHeartbeats 400000 in
theorem localOK_any (t : Int) (w : World) (ht : InI t) : Calls Tryz.prog 71 #[.int .i64 t] w fun e w' => e = .returned (.bool (decide (-345600000000 ≤ t) && decide (t ≤ 345600086399))) ∧ w = w' := by
  have hi := flD_iff ht
  obtain ⟨F, hF⟩ : ∃ F, flD t = F := ⟨_, rfl⟩
  rw [hF] at hi
  have HF := Lib.hid (And.intro hF hi); clear hF hi ht
  go_enter Tryz.func71, Tryz.ntmps71
  go_wp2_with (go_at_call 67; refine (FloorDay_any _ _).mono ?_; rintro e w' ⟨rfl, rfl⟩; rw [HF.out.1])
  all_goals go_ret
  all_goals exact ⟨retB (by have := HF.out.2; simp_all <;> omega), rfl⟩
set_option maxRecDepth 100000 in
set_option maxHeartbeats 1000000 in
theorem refSplit_all (t : Int) (w : World) (ht : InI t) : Calls Tryz.prog 57 #[.int .i64 t] w fun e w' => e = .returned (.tuple #[.int .i64 (locD t), .int .i64 (locS t), .int .i64 (locE t)]) ∧ w = w' := by
  have HI := Lib.hid ht; clear ht
  rcases loc_ways t with h | ⟨h1, h2⟩
  · rw [(loc_out h).1, (loc_out h).2.1, (loc_out h).2.2]
    have hb : (decide (-345600000000 ≤ t) && decide (t ≤ 345600086399)) = false := by simp; omega
    clear h
    go_enter Tryz.func57, Tryz.ntmps57
    go_wp2_with fail
    refine (localOK_any _ _ HI.out).mono ?_; rintro e w' ⟨rfl, rfl⟩
    rw [hb]
    go_wp2_with fail
    exact bodyPost_ret (v := .tuple #[.int .i64 0, .int .i64 0, .int .i64 4]) (by simp [results, Tryz.results57, go_sem]) rfl ⟨rfl, rfl⟩
  · rw [(loc_in h1 h2).1, (loc_in h1 h2).2.1, (loc_in h1 h2).2.2]
    have hb : (decide (-345600000000 ≤ t) && decide (t ≤ 345600086399)) = true := by simp; omega
    go_enter Tryz.func57, Tryz.ntmps57
    go_wp2_with fail
    refine (localOK_any _ _ HI.out).mono ?_; rintro e w' ⟨rfl, rfl⟩
    rw [hb]
    go_wp2_with fail
    refine (Floor_any _ _ _ (by omega) (by omega) (by omega) (by omega)).mono ?_; rintro e w' ⟨rfl, rfl⟩
    go_wp2_with fail
    refine (Mod_any _ _ _ (by omega) (by omega)).mono ?_; rintro e w' ⟨rfl, rfl⟩
    go_wp2_with fail
    exact bodyPost_ret (v := .tuple #[.int .i64 (t / 86400), .int .i64 (t % 86400), .int .i64 0]) (by simp [results, Tryz.results57, go_sem]) rfl ⟨rfl, rfl⟩
set_option maxRecDepth 100000 in
set_option maxHeartbeats 2000000 in
theorem refTell_all (t : Int) (w : World) (ht : InI t) : Calls Tryz.prog 31 #[.int .i64 t] w (TellPost t (.int .i64 (locE t)) w) := by
  have HI := Lib.hid ht; clear ht
  rcases loc_ways t with h | ⟨h1, h2⟩
  · have HE := Lib.hid (loc_out h)
    have HH := Lib.hid h; clear h
    go_enter Tryz.func31, Tryz.ntmps31
    go_wp2_with fail
    refine (refSplit_all _ _ HI.out).mono ?_; rintro e w' ⟨rfl, rfl⟩
    rw [HE.out.1, HE.out.2.1, HE.out.2.2]
    go_wp2_with fail
    refine bodyPost_ret (v := .tuple #[dateV 0 0 0 0, clkV 0 0 0, .int .i64 4]) (by simp [results, Tryz.results31, go_sem, dateV, clkV]) rfl ⟨0, 0, 0, 0, 0, 0, 0, by rw [HE.out.1], .inl ⟨HH.out, rfl, rfl, rfl, rfl, rfl, rfl, rfl⟩, ?_⟩
    repeat (first | with_reducible exact Below.refl _ _ | (with_reducible refine Below.alloc ?_ (by first | omega | (simp <;> omega)) _) | (with_reducible refine Below.setCell ?_ (by first | omega | (simp <;> omega)) _))
  · have HE := Lib.hid (loc_in h1 h2)
    have hS : 0 ≤ t % 86400 ∧ t % 86400 < 86400 := by omega
    obtain ⟨D, hD0⟩ : ∃ D, t / 86400 = D := ⟨_, rfl⟩
    obtain ⟨T, hT0⟩ : ∃ T, t % 86400 = T := ⟨_, rfl⟩
    rw [hT0] at hS
    have HD := Lib.hid (And.intro hD0 hT0); clear hD0 hT0
    have HH := Lib.hid (And.intro h1 h2); clear h1 h2
    go_enter Tryz.func31, Tryz.ntmps31
    go_wp2_with fail
    refine (refSplit_all _ _ HI.out).mono ?_; rintro e w' ⟨rfl, rfl⟩
    rw [HE.out.1, HE.out.2.1, HE.out.2.2, HD.out.1, HD.out.2]
    go_wp2_with fail
    refine (greg_any _ _).mono ?_; rintro en w1 ⟨a, y, m, d, rfl, hR, hb1⟩
    unfold dateV
    have HRR := Lib.hid hR; clear hR
    have hz1 := hb1.size
    simp only [World.size_alloc] at hz1
    obtain ⟨q1, p1⟩ := carry hb1 w.heap.size (by simp; omega)
    obtain ⟨q2, p2⟩ := carry hb1 (w.heap.size + 1) (by simp)
    have hs1 : w.heap.size < w1.heap.size := by omega
    have hs2 : w.heap.size + 1 < w1.heap.size := by omega
    have HB1 := Lib.hid (offA (offA hb1)); clear hb1
    go_wp2_with fail
    refine bodyPost_ret (v := .tuple #[dateV a y m d, clkV (T / 3600) (T / 60 % 60) (T % 60), .int .i64 0]) (by simp [results, Tryz.results31, go_sem, dateV, clkV, q1, q2]) rfl ⟨a, y, m, d, T / 3600, T / 60 % 60, T % 60, by rw [HE.out.1], .inr ⟨HH.out.1, HH.out.2, by rw [HD.out.1]; exact HRR.out, by rw [HD.out.2], by rw [HD.out.2], by rw [HD.out.2]⟩, ?_⟩
    repeat (first | with_reducible exact HB1.out | (with_reducible refine Below.alloc ?_ (by first | omega | (simp <;> omega)) _) | (with_reducible refine Below.setCell ?_ (by first | omega | (simp <;> omega)) _))
end Go.Proofs.YtkfpnlenmdlmjaaGreatDoor
