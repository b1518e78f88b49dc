/- The law DaysWeek: weeks have seven days, and no day is left out. -/
import Derived.Test.YtajnpdaljocnnaaDoorDaysS
namespace Go.Proofs.YtajnpdaljocnnaaDoor
open Go.RowKit
theorem ow_back {n y k d r x : Int} (h1 : -4000000 ≤ n) (h2 : n ≤ 4000000) (h : WkR n y k d) (ho : OwR y k d r x) : r = n ∧ x = 0 := by
  rcases h with ⟨e, _⟩ | ⟨_, y1, y2, w1, w2, rfl, rfl⟩
  · exact absurd (ofE_ok (by omega) (by omega) h1 h2) e
  · have hE := yearE1_in (y := y) (by omega) (by omega)
    have hw := weeksR_in (y := y) (by omega) (by omega)
    have h2w := Dm.weeks_two y
    have hb := Dm.wd_bd n
    have hno : ¬ owD y ((n - Dm.w1 y) / 7 + 1) (Dm.wd n) := by unfold owD; rw [hw]; omega
    have hN : owN y ((n - Dm.w1 y) / 7 + 1) (Dm.wd n) = n := by
      have := Dm.wd_of_w1 y n
      unfold owN; omega
    rcases ho with ⟨a, _⟩ | ⟨_, b, _⟩ | ⟨_, _, rfl, rfl⟩
    · exact absurd hE a
    · exact absurd b hno
    · rw [hN]; exact range_in h1 h2
theorem wk_next {n y k d y' k' d' : Int} (h1 : -4000000 ≤ n) (h2 : n + 7 ≤ 4000000) (h : WkR n y k d) (h' : WkR (n + 7) y' k' d') : d' = d ∧ ((y' = y ∧ k' = k + 1) ∨ (y' = y + 1 ∧ k' = 1 ∧ k = weeksR y)) ∧ (weeksR y = 52 ∨ weeksR y = 53) ∧ -18000 ≤ y ∧ y ≤ 18000 := by
  rcases h with ⟨e, _⟩ | ⟨_, y1, y2, w1, w2, rfl, rfl⟩
  · exact absurd (ofE_ok (by omega) (by omega) h1 (by omega)) e
  rcases h' with ⟨e, _⟩ | ⟨_, y1', y2', w1', w2', rfl, rfl⟩
  · exact absurd (ofE_ok (by omega) (by omega) (by omega) h2) e
  have hw := weeksR_in (y := y) (by omega) (by omega)
  have h2w := Dm.weeks_two y
  refine ⟨Dm.wd_week n, ?_, by omega, y1, y2⟩
  by_cases hg : n + 7 < Dm.w1 (y + 1)
  · obtain rfl := Dm.w1_one w1' w2' (show Dm.w1 y ≤ n + 7 by omega) hg
    exact .inl ⟨rfl, by omega⟩
  · have h3 := Dm.weeks_two (y + 1)
    obtain rfl := Dm.w1_one w1' w2' (show Dm.w1 (y + 1) ≤ n + 7 by omega) (by omega)
    exact .inr ⟨rfl, by omega, by rw [hw]; omega⟩
theorem wk_parts {n y k d : Int} (h1 : -4000000 ≤ n) (h2 : n ≤ 4000000) (h : WkR n y k d) : d = Dm.wd n ∧ 1 ≤ k ∧ k ≤ 53 ∧ -18000 ≤ y ∧ y ≤ 18000 := by
  rcases h with ⟨e, _⟩ | ⟨_, y1, y2, w1, w2, rfl, rfl⟩
  · exact absurd (ofE_ok (by omega) (by omega) h1 h2) e
  · have h2w := Dm.weeks_two y
    exact ⟨rfl, by omega, by omega, y1, y2⟩
set_option maxHeartbeats 2000000 in
theorem daysWeek_walk (n : Int) (w : World) (hT : ErrT w) (hr : RomanT w) : Calls Tryd.prog 11 #[.int .i64 n] w fun e w' => e = .returned (.bool true) ∧ Below w.heap.size w w' := by
  have HT : Hid (ErrT w ∧ RomanT w) := Lib.hid ⟨hT, hr⟩; clear hT hr
  rcases (show n < -4000000 ∨ 4000000 < n ∨ (-4000000 ≤ n ∧ n ≤ 4000000) by omega) with h | h | ⟨h1, h2⟩
  · have HE := Lib.hid (ofE_range (c := 1) (n := n) (by omega) (by omega) (by omega))
    go_enter Tryd.func11, Tryd.ntmps11
    go_wp2_with fail
    refine (plainWeek _ _ HT.out.1 HT.out.2).mono ?_; rintro en w1 ⟨y1, k1, d1, rfl, hR1, hb1⟩
    rw [HE.out]
    clear hR1
    have HB1 := Lib.hid hb1; clear hb1
    go_wp2_with fail
    go_ret
    exact ⟨retB (by simp), HB1.out⟩
  · have HE := Lib.hid (ofE_range (c := 1) (n := n) (by omega) (by omega) (by omega))
    have h' : ¬ n < -4000000 := by omega
    go_enter Tryd.func11, Tryd.ntmps11
    go_wp2_with fail
    refine (plainWeek _ _ HT.out.1 HT.out.2).mono ?_; rintro en w1 ⟨y1, k1, d1, rfl, hR1, hb1⟩
    rw [HE.out]
    clear hR1
    have HB1 := Lib.hid hb1; clear hb1
    go_wp2_with fail
    go_ret
    exact ⟨retB (by simp), HB1.out⟩
  · have HE := Lib.hid (ofE_ok (c := 1) (n := n) (by omega) (by omega) h1 h2)
    go_enter Tryd.func11, Tryd.ntmps11
    go_wp2_with fail
    refine (plainWeek _ _ HT.out.1 HT.out.2).mono ?_; rintro en w1 ⟨y, k, d, rfl, hR1, hb1⟩
    rw [HE.out]
    obtain ⟨rfl, k1, k2, y1, y2⟩ := wk_parts h1 h2 hR1
    have HR1 := Lib.hid hR1; clear hR1
    have HT1 : Hid (ErrT w1 ∧ RomanT w1) := Lib.hid ⟨HT.out.1.call hb1, HT.out.2.call hb1⟩
    have HB1 := Lib.hid hb1; clear hb1
    go_wp2_with fail
    refine (plainOfWeek _ _ _ _ HT1.out.1).mono ?_; rintro en w2 ⟨r, x, rfl, hR2, hb2⟩
    obtain ⟨rfl, rfl⟩ := ow_back h1 h2 HR1.out hR2
    clear hR2
    have HT2 : Hid (ErrT w2 ∧ RomanT w2) := Lib.hid ⟨HT1.out.1.call hb2, HT1.out.2.call hb2⟩
    have HB2 := Lib.hid (thenB HB1.out hb2); clear hb2
    go_wp2_with fail
    refine (plainWeekday _ _ (InI.mk (by omega) (by omega))).mono ?_; rintro e w' ⟨rfl, rfl⟩
    by_cases h7 : 4000000 < r + 7
    · go_wp2_with fail
      go_ret
      exact ⟨retB (by simp), HB2.out⟩
    · have HE7 := Lib.hid (ofE_ok (c := 1) (n := r + 7) (by omega) (by omega) (by omega) (by omega))
      go_wp2_with fail
      refine (plainWeek _ _ HT2.out.1 HT2.out.2).mono ?_; rintro en w3 ⟨y', k', d', rfl, hR3, hb3⟩
      rw [HE7.out]
      obtain ⟨rfl, hcase, hk, _, _⟩ := wk_next h1 (by omega) HR1.out hR3
      clear hR3
      have HT3 : Hid (ErrT w3) := Lib.hid (HT2.out.1.call hb3)
      have HB3 := Lib.hid (thenB HB2.out hb3); clear hb3
      have HY := Lib.hid (yearE1_in (y := y) (by omega) (by omega))
      go_wp2_with fail
      refine (plainWeeks _ _ HT3.out).mono ?_; rintro en w4 ⟨rfl, hb4⟩
      rw [HY.out]
      have HB4 := Lib.hid (thenB HB3.out hb4); clear hb4
      rcases hcase with ⟨rfl, rfl⟩ | ⟨rfl, rfl, hkk⟩
      · have HX := Lib.hid (show weeksR y' ≠ 52 → weeksR y' = 53 by omega)
        clear hk
        go_wp2_with fail
        all_goals go_ret
        all_goals exact ⟨retB (by first | (simp; done) | (exfalso; rename_i h; have := HX.out; simp at h; omega)), HB4.out⟩
      · subst hkk
        have HX := Lib.hid (show weeksR y ≠ 52 → weeksR y = 53 by omega)
        clear hk
        go_wp2_with fail
        all_goals go_ret
        all_goals exact ⟨retB (by first | (simp; done) | (exfalso; rename_i h; have := HX.out; simp at h; omega)), HB4.out⟩
end Go.Proofs.YtajnpdaljocnnaaDoor
