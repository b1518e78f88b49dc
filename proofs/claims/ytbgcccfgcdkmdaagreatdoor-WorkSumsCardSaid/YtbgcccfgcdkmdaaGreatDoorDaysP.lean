/- The date of a day: the document's; and the law. -/
import Derived.Test.YtbgcccfgcdkmdaaGreatDoorDaysO
namespace Go.Proofs.YtbgcccfgcdkmdaaGreatDoor
open Go.RowKit
theorem start_y0 (c N : Int) (c1 : 1 ≤ c) (c2 : c ≤ 10) (h : 0 ≤ N) : Dm.start c (N / 366) ≤ N := by
  have l1 := Dm.lin_start c (N / 366) c1 c2
  unfold Dm.Lin at l1
  omega
theorem start_y1 (c N : Int) (c1 : 1 ≤ c) (c2 : c ≤ 10) (h : N < 0) : Dm.start c (N / 354 - 2) ≤ N := by
  have l1 := Dm.lin_start c (N / 354 - 2) c1 c2
  unfold Dm.Lin at l1
  omega
set_option maxHeartbeats 2000000 in
theorem refOf_bad (c n : Int) (w : World) (h : (c < 1 ∨ 10 < c) ∨ (1 ≤ c ∧ c ≤ 10 ∧ (n < -4000000 ∨ 4000000 < n))) : Calls Tryz.prog 79 #[.int .i64 c, .int .i64 n] w fun e w' => e = .returned (.tuple #[dateV 0 0 0 0, .int .i64 (ofE c n)]) ∧ Below w.heap.size w w' := by
  rcases h with h | ⟨c1, c2, h⟩
  · have hb : (decide (1 ≤ c) && decide (c ≤ 10)) = false := by simp; omega
    have HE := Lib.hid (ofE_cal (n := n) h)
    go_enter Tryz.func79, Tryz.ntmps79
    go_wp2_with fail
    refine (CalOK_any _ _).mono ?_; rintro e w' ⟨rfl, rfl⟩
    rw [hb]
    go_wp2_with fail
    refine bodyPost_ret (v := .tuple #[dateV 0 0 0 0, .int .i64 2]) (by simp [results, Tryz.results79, go_sem, dateV]) rfl ⟨by rw [HE.out], ?_⟩
    repeat (first | with_reducible exact Below.refl _ _ | (with_reducible refine Below.alloc ?_ (by first | omega | (simp <;> omega)) _) | (with_reducible refine Below.setCell ?_ (by first | omega | (simp <;> omega)) _))
  · have hb : (decide (1 ≤ c) && decide (c ≤ 10)) = true := by simp; omega
    have HE := Lib.hid (ofE_range c1 c2 h)
    have HN := Lib.hid (show ¬ (-4000000 ≤ n ∧ n ≤ 4000000) by omega)
    clear h
    go_enter Tryz.func79, Tryz.ntmps79
    go_wp2_with fail
    refine (CalOK_any _ _).mono ?_; rintro e w' ⟨rfl, rfl⟩
    rw [hb]
    go_wp2_with fail
    refine (there_any _ _).mono ?_; rintro e w' ⟨rfl, rfl⟩
    rw [if_neg HN.out, if_neg HN.out]
    go_wp2_with fail
    refine bodyPost_ret (v := .tuple #[dateV 0 0 0 0, .int .i64 4]) (by simp [results, Tryz.results79, go_sem, dateV]) rfl ⟨by rw [HE.out], ?_⟩
    repeat (first | with_reducible exact Below.refl _ _ | (with_reducible refine Below.alloc ?_ (by first | omega | (simp <;> omega)) _) | (with_reducible refine Below.setCell ?_ (by first | omega | (simp <;> omega)) _))
set_option maxHeartbeats 4000000 in
theorem refOf_ok (c n : Int) (w : World) (c1 : 1 ≤ c) (c2 : c ≤ 10) (h1 : -4000000 ≤ n) (h2 : n ≤ 4000000) : Calls Tryz.prog 79 #[.int .i64 c, .int .i64 n] w (OfOk c n (.int .i64 0) w) := by
  have hb : (decide (1 ≤ c) && decide (c ≤ 10)) = true := by simp; omega
  have HN := Lib.hid (show (-4000000 ≤ n ∧ n ≤ 4000000) from ⟨h1, h2⟩)
  have b1 := Dm.first_bd c
  obtain ⟨F, hF0⟩ : ∃ F, Dm.first c = F := ⟨_, rfl⟩
  rw [hF0] at b1
  have HF := Lib.hid hF0; clear hF0
  obtain ⟨Y, hY0⟩ : ∃ Y, Y = if n < F then (n - F) / 354 - 2 else (n - F) / 366 := ⟨_, rfl⟩
  have hYs : Dm.start c Y ≤ n - F := by
    rw [hY0]; split
    · exact start_y1 c _ c1 c2 (by omega)
    · exact start_y0 c _ c1 c2 (by omega)
  have hY1 : -15000 ≤ Y := by rw [hY0]; split <;> omega
  have hY2 : Y ≤ 17300 := by rw [hY0]; split <;> omega
  obtain ⟨Q, hQ0⟩ : ∃ Q, (n - F) / 366 = Q := ⟨_, rfl⟩
  have hQ1 : -15000 ≤ Q ∧ Q ≤ 17300 := by omega
  have HQ := Lib.hid (And.intro hQ0 (And.intro hY0.symm hYs)); clear hQ0 hY0 hYs
  by_cases hlt : n < F
  all_goals
    go_enter Tryz.func79, Tryz.ntmps79
    go_wp2_with fail
    refine (CalOK_any _ _).mono ?_; rintro e w' ⟨rfl, rfl⟩
    rw [hb]
    go_wp2_with fail
    refine (there_any _ _).mono ?_; rintro e w' ⟨rfl, rfl⟩
    rw [if_pos HN.out, if_pos HN.out]
    go_wp2_with fail
    refine (first_any _ _ c1 c2).mono ?_; rintro e w1 ⟨rfl, hb1⟩
    rw [HF.out]
    have hz1 := hb1.size
    simp only [World.size_alloc] at hz1
    obtain ⟨q1, p1⟩ := carry hb1 w.heap.size (by simp)
    have HB1 := Lib.hid (offA hb1); clear hb1
    go_wp2_with fail
    refine (Floor_any _ _ _ (by omega) (by omega) (by omega) (by omega)).mono ?_; rintro e w' ⟨rfl, rfl⟩
    rw [HQ.out.1]
    go_wp2_with fail
    refine (first_any _ _ c1 c2).mono ?_; rintro e w2 ⟨rfl, hb2⟩
    rw [HF.out]
    have hz2 := hb2.size
    obtain ⟨q2, p2⟩ := carry hb2 w.heap.size (by omega)
    have HB2 := Lib.hid (thenB HB1.out hb2); clear hb2
    go_wp2_with fail
  all_goals
    first
    | (refine (first_any _ _ c1 c2).mono ?_; rintro e w3 ⟨rfl, hb3⟩
       rw [HF.out]
       have hz3 := hb3.size
       obtain ⟨q3, p3⟩ := carry hb3 w.heap.size (by omega)
       have HB3 := Lib.hid (thenB HB2.out hb3); clear hb3
       go_wp2_with fail
       refine (Floor_any _ _ _ (by omega) (by omega) (by omega) (by omega)).mono ?_; rintro e w' ⟨rfl, rfl⟩
       go_wp2_with fail
       have hY := HQ.out.2.1
       rw [if_pos hlt] at hY
       rw [hY]
       clear hY
       have QQ := fun o => (q3 o).trans ((q2 o).trans (q1 o))
       have PP := fun o => (p3 o).trans ((p2 o).trans (p1 o))
       have HZ : w.heap.size < w3.heap.size := by omega)
    | (have hY := HQ.out.2.1
       rw [if_neg (by omega), HQ.out.1] at hY
       rw [hY]
       clear hY
       have HB3 := HB2
       have QQ := fun o => (q2 o).trans (q1 o)
       have PP := fun o => (p2 o).trans (p1 o)
       have HZ : w.heap.size < w2.heap.size := by omega)
  all_goals
    clear hlt
    refine (YearStart_any _ _ _ c1 c2 (by omega) (by omega)).mono ?_; rintro e w4 ⟨rfl, hb4⟩
    rw [HF.out]
    have hz4 := hb4.size
    obtain ⟨q4, p4⟩ := carry hb4 w.heap.size (by omega)
    have HB4 := Lib.hid (thenB HB3.out hb4); clear hb4
    go_wp2_with fail
    go_loopw [9, 8] (fun a y wr => ∃ yy : Int, y = .int .i64 yy ∧ a = .int .i64 (F + Dm.start c yy) ∧ -15000 ≤ yy ∧ Dm.start c yy ≤ n - F ∧ (∀ o, wr.cell? ⟨w.heap.size, o, none⟩ = (w.alloc (.cells #[.int .i64 0, .int .i64 0, .int .i64 0, .int .i64 0] 89)).cell? ⟨w.heap.size, o, none⟩) ∧ (∀ o, wr.frozen? ⟨w.heap.size, o, none⟩ = (w.alloc (.cells #[.int .i64 0, .int .i64 0, .int .i64 0, .int .i64 0] 89)).frozen? ⟨w.heap.size, o, none⟩) ∧ w.heap.size < wr.heap.size ∧ Hid (Below w.heap.size w wr)) (fun _ y _ => (20000 - intOf y).toNat)
    case atStart => exact ⟨_, rfl, rfl, hY1, HQ.out.2.2, fun o => (q4 o).trans (QQ o), fun o => (p4 o).trans (PP o), by omega, HB4⟩
    case round =>
      obtain ⟨yy, rfl, rfl, y1, ys, r1, s1, rz, HBr⟩ := hrel
      have y2 : yy ≤ 17300 := by have l := Dm.lin_start c yy c1 c2; unfold Dm.Lin at l; omega
      have b2 := Dm.start_bd c yy c1 c2 (by omega) (by omega)
      have b3 := Dm.days_bd c yy c1 c2 (by omega) (by omega)
      have HY : Hid (Dm.yearDays c yy = Dm.start c (yy + 1) - Dm.start c yy) := Lib.hid rfl
      by_cases hgo : F + Dm.start c yy + Dm.yearDays c yy ≤ n
      · go_wp2_with fail
        refine (YearDays_any _ _ _ c1 c2 (by omega) (by omega)).mono ?_; rintro e w5 ⟨rfl, hb5⟩
        have hz5 := hb5.size
        obtain ⟨q5, p5⟩ := carry hb5 w.heap.size rz
        have HB5 := Lib.hid (thenB HBr.out hb5); clear hb5
        go_wp2_with fail
        refine (YearDays_any _ _ _ c1 c2 (by omega) (by omega)).mono ?_; rintro e w6 ⟨rfl, hb6⟩
        have hz6 := hb6.size
        obtain ⟨q6, p6⟩ := carry hb6 w.heap.size (by omega)
        have HB6 := Lib.hid (thenB HB5.out hb6); clear hb6
        go_wp2_with fail
        go_roundw
        case rel => exact ⟨yy + 1, rfl, by rw [show F + Dm.start c yy + Dm.yearDays c yy = F + Dm.start c (yy + 1) by rw [HY.out]; omega], by omega, by have := HY.out; omega, fun o => (q6 o).trans ((q5 o).trans (r1 o)), fun o => (p6 o).trans ((p5 o).trans (s1 o)), by omega, HB6⟩
        case measure => simp [intOf]; omega
      · go_wp2_with fail
        refine (YearDays_any _ _ _ c1 c2 (by omega) (by omega)).mono ?_; rintro e w5 ⟨rfl, hb5⟩
        have hz5 := hb5.size
        obtain ⟨q5, p5⟩ := carry hb5 w.heap.size rz
        have HB5 := Lib.hid (thenB HBr.out hb5); clear hb5
        go_wp2_with fail
        refine (Lengths_any _ _ _ c1 c2 (by omega) (by omega)).mono ?_; rintro e w6 ⟨B, k, cap, rfl, hk, hB1, hB2, hx, hb6⟩
        have hz6 := hb6.size
        obtain ⟨q6, p6⟩ := carry hb6 w.heap.size (by omega)
        have HB6 := Lib.hid (thenB HB5.out hb6); clear hb6
        have HX := Lib.hid hx; clear hx
        have RR := fun o => (q6 o).trans ((q5 o).trans (r1 o))
        have b4 := Dm.months_lo c yy
        go_wp2_with fail
        go_loop [9, 11] (fun a mm => ∃ t : Nat, mm = .int .i64 t ∧ a = .int .i64 (F + Dm.start c yy + Dm.upTo c yy t) ∧ t < k ∧ F + Dm.start c yy + Dm.upTo c yy t ≤ n) (fun _ mm => 14 - (intOf mm).toNat)
        case atStart => exact ⟨0, rfl, by simp [Dm.upTo], by omega, by simp [Dm.upTo]; omega⟩
        case round =>
          obtain ⟨t, rfl, rfl, ht, hn0⟩ := hrel
          have b5 := Dm.upTo_bd c yy t
          have b6 := Dm.length_bd c yy (t + 1)
          have hcell := HX.out t ht
          by_cases hgt : F + Dm.start c yy + Dm.upTo c yy t + Dm.length c yy (t + 1) ≤ n
          · have hU : Dm.upTo c yy (t + 1) = Dm.upTo c yy t + Dm.length c yy (t + 1) := rfl
            have hnx : t + 1 < k := by
              have hs := Dm.sum_all c yy c1 c2 (by omega) (by omega)
              by_cases hm : t + 1 = k
              · have e : (Dm.months c yy).toNat = t + 1 := by omega
                rw [e, hU] at hs
                omega
              · omega
            have HU := Lib.hid hU; clear hU
            go_wp2_with fail
            go_round
            case rel => exact ⟨t + 1, by go_num, by rw [HU.out]; congr 1; omega, by omega, by rw [HU.out]; omega⟩
            case measure => simp [intOf]; omega
          · go_wp2_with fail
            refine bodyPost_ret (v := .tuple #[dateV c yy (t + 1) (n - (F + Dm.start c yy + Dm.upTo c yy t) + 1), .int .i64 0]) (by simp [results, Tryz.results79, go_sem, RR, dateV]) rfl ⟨_, _, _, rfl, ⟨by omega, by omega, by omega, by omega, by omega, by omega⟩, ?_, ?_⟩
            · have hN := HF.out
              unfold Dm.dayOf
              rw [show ((t : Int) + 1 - 1).toNat = t by omega]
              omega
            · repeat (first | with_reducible exact HB6.out | (with_reducible refine Below.alloc ?_ (by first | omega | (simp <;> omega)) _) | (with_reducible refine Below.setCell ?_ (by first | omega | (simp <;> omega)) _))
theorem refOf_all (c n : Int) (w : World) : Calls Tryz.prog 79 #[.int .i64 c, .int .i64 n] w (OfPost2 c n (.int .i64 (ofE c n)) w) := by
  rcases of_ways c n with h | h | ⟨c1, c2, h1, h2⟩
  · exact (refOf_bad c n w (.inl h)).mono fun e w' ⟨he, hb⟩ => ⟨0, 0, 0, 0, he, .inl ⟨by rw [ofE_cal h]; decide, rfl, rfl, rfl, rfl⟩, hb⟩
  · exact (refOf_bad c n w (.inr h)).mono fun e w' ⟨he, hb⟩ => ⟨0, 0, 0, 0, he, .inl ⟨by rw [ofE_range h.1 h.2.1 h.2.2]; decide, rfl, rfl, rfl, rfl⟩, hb⟩
  · rw [ofE_ok c1 c2 h1 h2]; exact (refOf_ok c n w c1 c2 h1 h2).mono fun e w' ⟨y, m, d, he, hv, hd, hb⟩ => ⟨c, y, m, d, he, .inr ⟨ofE_ok c1 c2 h1 h2, rfl, c1, c2, hv, hd⟩, hb⟩
end Go.Proofs.YtbgcccfgcdkmdaaGreatDoor
