/- Times, their days and clocks: the document's. -/
import Derived.Test.YtpchkfnfipdilaaDoorClkA
import Derived.Test.YtpchkfnfipdilaaDoorClkG
namespace Go.Proofs.YtpchkfnfipdilaaDoor
open Go.RowKit
/-- The day of any number of seconds, as the document reckons it, also beyond the ends. -/
def flD (t : Int) : Int := wrap64 ((wrap64 (t - t % 86400)).tdiv 86400)
theorem flD_iff {t : Int} (ht : InI t) : (-4000000 ≤ flD t ∧ flD t ≤ 4000000) ↔ (-345600000000 ≤ t ∧ t ≤ 345600086399) := by
  obtain ⟨a1, a2⟩ := ht
  have h1 := tdiv_fact (wrap64 (t - t % 86400)) 86400
  have h2 := tmod_fact (wrap64 (t - t % 86400)) 86400 (by omega)
  have hw : wrap64 (t - t % 86400) = t - t % 86400 ∨ wrap64 (t - t % 86400) = t - t % 86400 + 18446744073709551616 ∧ t < -9000000000000000000 := by
    unfold wrap64; omega
  have hr : -9223372036854775808 ≤ wrap64 (t - t % 86400) ∧ wrap64 (t - t % 86400) ≤ 9223372036854775807 := by unfold wrap64; omega
  have hd : flD t = (wrap64 (t - t % 86400)).tdiv 86400 := tdiv_in ⟨hr.1, hr.2⟩ (by omega)
  rw [hd]
  generalize (wrap64 (t - t % 86400)).tdiv 86400 = q at h1 ⊢
  generalize (wrap64 (t - t % 86400)).tmod 86400 = r at h1 h2
  generalize wrap64 (t - t % 86400) = x at h1 hw hr
  have : t % 86400 = t - 86400 * (t / 86400) := by omega
  omega
set_option maxHeartbeats 400000 in
theorem FloorDay_any (t : Int) (w : World) : Calls Tryd.prog 22 #[.int .i64 t, .int .i64 86400] w fun e w' => e = .returned (.int .i64 (flD t)) ∧ w = w' := by
  have hr : -9223372036854775808 ≤ wrap64 (t - t % 86400) ∧ wrap64 (t - t % 86400) ≤ 9223372036854775807 := by unfold wrap64; omega
  have hd : flD t = (wrap64 (t - t % 86400)).tdiv 86400 := tdiv_in ⟨hr.1, hr.2⟩ (by omega)
  have HD := Lib.hid hd
  have HT := Lib.hid (show flD t = wrap64 ((wrap64 (t - t % 86400)).tdiv 86400) from rfl)
  clear hr hd
  go_enter Tryd.func22, Tryd.ntmps22
  go_wp2_with (go_at_call 23; refine (Mod_any _ _ _ (by omega) (by omega)).mono ?_; rintro e w' ⟨rfl, rfl⟩)
  go_ret
  exact ⟨ret1 (by first | exact HT.out.symm | exact HD.out.symm), rfl⟩
set_option maxRecDepth 100000 in
set_option maxHeartbeats 400000 in
theorem localOK_any (t : Int) (w : World) (ht : InI t) : Calls Tryd.prog 21 #[.int .i64 t] w fun e w' => e = .returned (.bool (decide (-345600000000 ≤ t) && decide (t ≤ 345600086399))) ∧ w = w' := by
  have hi := flD_iff ht
  obtain ⟨F, hF⟩ : ∃ F, flD t = F := ⟨_, rfl⟩
  rw [hF] at hi
  have HF := Lib.hid (And.intro hF hi); clear hF hi ht
  go_enter Tryd.func21, Tryd.ntmps21
  go_wp2_with (go_at_call 22; refine (FloorDay_any _ _).mono ?_; rintro e w' ⟨rfl, rfl⟩; rw [HF.out.1])
  all_goals go_ret
  all_goals exact ⟨retB (by have := HF.out.2; simp_all <;> omega), rfl⟩
set_option maxRecDepth 100000 in
set_option maxHeartbeats 1000000 in
theorem refSplit_all (t : Int) (w : World) (ht : InI t) : Calls Tryd.prog 8 #[.int .i64 t] w fun e w' => e = .returned (.tuple #[.int .i64 (locD t), .int .i64 (locS t), .int .i64 (locE t)]) ∧ w = w' := by
  have HI := Lib.hid ht; clear ht
  rcases loc_ways t with h | ⟨h1, h2⟩
  · rw [(loc_out h).1, (loc_out h).2.1, (loc_out h).2.2]
    have hb : (decide (-345600000000 ≤ t) && decide (t ≤ 345600086399)) = false := by simp; omega
    clear h
    go_enter Tryd.func8, Tryd.ntmps8
    go_wp2_with fail
    refine (localOK_any _ _ HI.out).mono ?_; rintro e w' ⟨rfl, rfl⟩
    rw [hb]
    go_wp2_with fail
    exact bodyPost_ret (v := .tuple #[.int .i64 0, .int .i64 0, .int .i64 4]) (by simp [results, Tryd.results8, go_sem]) rfl ⟨rfl, rfl⟩
  · rw [(loc_in h1 h2).1, (loc_in h1 h2).2.1, (loc_in h1 h2).2.2]
    have hb : (decide (-345600000000 ≤ t) && decide (t ≤ 345600086399)) = true := by simp; omega
    go_enter Tryd.func8, Tryd.ntmps8
    go_wp2_with fail
    refine (localOK_any _ _ HI.out).mono ?_; rintro e w' ⟨rfl, rfl⟩
    rw [hb]
    go_wp2_with fail
    refine (Floor_any _ _ _ (by omega) (by omega) (by omega) (by omega)).mono ?_; rintro e w' ⟨rfl, rfl⟩
    go_wp2_with fail
    refine (Mod_any _ _ _ (by omega) (by omega)).mono ?_; rintro e w' ⟨rfl, rfl⟩
    go_wp2_with fail
    exact bodyPost_ret (v := .tuple #[.int .i64 (t / 86400), .int .i64 (t % 86400), .int .i64 0]) (by simp [results, Tryd.results8, go_sem]) rfl ⟨rfl, rfl⟩
set_option maxRecDepth 100000 in
set_option maxHeartbeats 1000000 in
theorem refJoin_all (d s : Int) (w : World) : Calls Tryd.prog 10 #[.int .i64 d, .int .i64 s] w fun e w' => e = .returned (.tuple #[.int .i64 (joinR d s), .int .i64 (joinE d s)]) ∧ w = w' := by
  rcases (show s < 0 ∨ 86400 ≤ s ∨ (0 ≤ s ∧ s < 86400 ∧ (d < -4000000 ∨ 4000000 < d)) ∨ (0 ≤ s ∧ s < 86400 ∧ -4000000 ≤ d ∧ d ≤ 4000000) by omega) with h | h | ⟨h1, h2, h⟩ | ⟨h1, h2, h3, h4⟩
  · rw [(join_sec (.inl h)).1, (join_sec (.inl h)).2]
    go_enter Tryd.func10, Tryd.ntmps10
    go_wp2_with fail
    go_ret2
    exact ⟨rfl, rfl⟩
  · rw [(join_sec (.inr h)).1, (join_sec (.inr h)).2]
    have h' : ¬ s < 0 := by omega
    go_enter Tryd.func10, Tryd.ntmps10
    go_wp2_with fail
    go_ret2
    exact ⟨rfl, rfl⟩
  · rw [(join_day h1 h2 h).1, (join_day h1 h2 h).2]
    have HR := Lib.hid (range_out h); clear h
    go_enter Tryd.func10, Tryd.ntmps10
    go_wp2_with fail
    refine (there_r _ _).mono ?_; rintro e w' ⟨rfl, rfl⟩
    rw [HR.out.1, HR.out.2]
    go_wp2_with fail
    go_ret2
    exact ⟨rfl, rfl⟩
  · rw [(join_ok h1 h2 h3 h4).1, (join_ok h1 h2 h3 h4).2]
    have HR := Lib.hid (range_in h3 h4)
    go_enter Tryd.func10, Tryd.ntmps10
    go_wp2_with fail
    refine (there_r _ _).mono ?_; rintro e w' ⟨rfl, rfl⟩
    rw [HR.out.1, HR.out.2]
    go_wp2_with fail
    go_ret2
    exact ⟨rfl, rfl⟩
set_option maxRecDepth 100000 in
set_option maxHeartbeats 2000000 in
theorem refCof_all (d h m s : Int) (w : World) : Calls Tryd.prog 12 #[.int .i64 d, .agg #[.int .i64 h, .int .i64 m, .int .i64 s]] w fun e w' => e = .returned (.tuple #[.int .i64 (cofR d h m s), .int .i64 (cofE d h m s)]) ∧ Below w.heap.size w w' := by
  rcases cof_ways h m s with g | ⟨h1, h2, h3, h4, h5, h6⟩
  · have hE : cofE d h m s = 3 ∧ cofR d h m s = 0 := ⟨if_pos (by omega), if_pos (by omega)⟩
    rw [hE.1, hE.2]
    clear hE
    rcases g with g | ⟨g1, g⟩ | ⟨g1, g2, g⟩ | ⟨g1, g2, g3, g⟩ | ⟨g1, g2, g3, g4, g⟩ | ⟨g1, g2, g3, g4, g5, g⟩
    all_goals
      go_enter Tryd.func12, Tryd.ntmps12
      go_wp2
      all_goals go_ret2
      all_goals exact ⟨rfl, (Below.refl _ _).alloc (Nat.le_refl _) _⟩
  · have hE : cofE d h m s = joinE d (h * 3600 + m * 60 + s) ∧ cofR d h m s = joinR d (h * 3600 + m * 60 + s) := by
      rw [show h * 3600 + m * 60 + s = (h * 60 + m) * 60 + s by omega]
      exact ⟨if_neg (by omega), if_neg (by omega)⟩
    rw [hE.1, hE.2]
    clear hE
    go_enter Tryd.func12, Tryd.ntmps12
    go_wp2_with fail
    refine (refJoin_all _ _ _).mono ?_; rintro e w' ⟨rfl, rfl⟩
    go_wp2_with fail
    go_ret2
    exact ⟨rfl, (Below.refl _ _).alloc (Nat.le_refl _) _⟩
set_option maxRecDepth 100000 in
set_option maxHeartbeats 2000000 in
theorem refTell_all (t : Int) (w : World) (ht : InI t) : Calls Tryd.prog 14 #[.int .i64 t] w (TellPost t (.int .i64 (locE t)) w) := by
  have HI := Lib.hid ht; clear ht
  rcases loc_ways t with h | ⟨h1, h2⟩
  · have HE := Lib.hid (loc_out h)
    have HH := Lib.hid h; clear h
    go_enter Tryd.func14, Tryd.ntmps14
    go_wp2_with fail
    refine (refSplit_all _ _ HI.out).mono ?_; rintro e w' ⟨rfl, rfl⟩
    rw [HE.out.1, HE.out.2.1, HE.out.2.2]
    go_wp2_with fail
    refine bodyPost_ret (v := .tuple #[dateV 0 0 0 0, clkV 0 0 0, .int .i64 4]) (by simp [results, Tryd.results14, go_sem, dateV, clkV]) rfl ⟨0, 0, 0, 0, 0, 0, 0, by rw [HE.out.1], .inl ⟨HH.out, rfl, rfl, rfl, rfl, rfl, rfl, rfl⟩, ?_⟩
    repeat (first | with_reducible exact Below.refl _ _ | (with_reducible refine Below.alloc ?_ (by first | omega | (simp <;> omega)) _) | (with_reducible refine Below.setCell ?_ (by first | omega | (simp <;> omega)) _))
  · have HE := Lib.hid (loc_in h1 h2)
    have hS : 0 ≤ t % 86400 ∧ t % 86400 < 86400 := by omega
    obtain ⟨D, hD0⟩ : ∃ D, t / 86400 = D := ⟨_, rfl⟩
    obtain ⟨T, hT0⟩ : ∃ T, t % 86400 = T := ⟨_, rfl⟩
    rw [hT0] at hS
    have HD := Lib.hid (And.intro hD0 hT0); clear hD0 hT0
    have HH := Lib.hid (And.intro h1 h2); clear h1 h2
    go_enter Tryd.func14, Tryd.ntmps14
    go_wp2_with fail
    refine (refSplit_all _ _ HI.out).mono ?_; rintro e w' ⟨rfl, rfl⟩
    rw [HE.out.1, HE.out.2.1, HE.out.2.2, HD.out.1, HD.out.2]
    go_wp2_with fail
    refine (greg_any _ _).mono ?_; rintro en w1 ⟨a, y, m, d, rfl, hR, hb1⟩
    unfold dateV
    have HRR := Lib.hid hR; clear hR
    have hz1 := hb1.size
    simp only [World.size_alloc] at hz1
    obtain ⟨q1, p1⟩ := carry hb1 w.heap.size (by simp; omega)
    obtain ⟨q2, p2⟩ := carry hb1 (w.heap.size + 1) (by simp)
    have hs1 : w.heap.size < w1.heap.size := by omega
    have hs2 : w.heap.size + 1 < w1.heap.size := by omega
    have HB1 := Lib.hid (offA (offA hb1)); clear hb1
    go_wp2_with fail
    refine bodyPost_ret (v := .tuple #[dateV a y m d, clkV (T / 3600) (T / 60 % 60) (T % 60), .int .i64 0]) (by simp [results, Tryd.results14, go_sem, dateV, clkV, q1, q2]) rfl ⟨a, y, m, d, T / 3600, T / 60 % 60, T % 60, by rw [HE.out.1], .inr ⟨HH.out.1, HH.out.2, by rw [HD.out.1]; exact HRR.out, by rw [HD.out.2], by rw [HD.out.2], by rw [HD.out.2]⟩, ?_⟩
    repeat (first | with_reducible exact HB1.out | (with_reducible refine Below.alloc ?_ (by first | omega | (simp <;> omega)) _) | (with_reducible refine Below.setCell ?_ (by first | omega | (simp <;> omega)) _))
end Go.Proofs.YtpchkfnfipdilaaDoor
