/- Leap, Months, Length of the document; the law DaysLeaps. Plain mathematics of ten calendars, second part: years from year 1 on, and bounds. The document's years: how many days a year has, and on which day it begins. -/
import Derived.Test.YtkfpnlenmdlmjaaGreatDoorZDaysH
import Derived.Test.YtkfpnlenmdlmjaaGreatDoorZG1
namespace Go.Proofs.YtkfpnlenmdlmjaaGreatDoor
open Go.RowKit
set_option maxHeartbeats 1000000 in
theorem refLength_any (c y m : Int) (w : World) : Calls Tryz.prog 90 #[.int .i64 c, .int .i64 y, .int .i64 m] w fun e w' => e = .returned (.tuple #[.int .i64 (lenR c y m), .int .i64 (lenE c y m)]) ∧ Below w.heap.size w w' := by
  rcases year_ways c y with h | ⟨h1, h2, h⟩ | ⟨h1, h2, h3, h4⟩
  · have hE := yearE_cal (y := y) h
    have hF : lenE c y m = 2 := by rw [lenE_bad (by rw [hE]; decide), hE]
    have HE := Lib.hid hE; clear hE
    have HF := Lib.hid hF; clear hF
    go_enter Tryz.func90, Tryz.ntmps90
    go_wp2_with fail
    refine (year_any _ _ _).mono ?_; rintro e w' ⟨rfl, rfl⟩
    rw [HE.out]
    go_wp2_with fail
    go_ret2
    exact ⟨by unfold lenR; rw [HF.out]; rfl, Below.refl _ _⟩
  · have hE := yearE_range h1 h2 h
    have hF : lenE c y m = 4 := by rw [lenE_bad (by rw [hE]; decide), hE]
    have HE := Lib.hid hE; clear hE
    have HF := Lib.hid hF; clear hF
    go_enter Tryz.func90, Tryz.ntmps90
    go_wp2_with fail
    refine (year_any _ _ _).mono ?_; rintro e w' ⟨rfl, rfl⟩
    rw [HE.out]
    go_wp2_with fail
    go_ret2
    exact ⟨by unfold lenR; rw [HF.out]; rfl, Below.refl _ _⟩
  · have hE := yearE_ok h1 h2 h3 h4
    have HE := Lib.hid hE; clear hE
    have hml := Dm.months_lo c y
    by_cases hm : m < 1 ∨ Dm.months c y < m
    · have HF := Lib.hid (lenE_date HE.out hm)
      rcases hm with hm | hm
      · go_enter Tryz.func90, Tryz.ntmps90
        go_wp2_with fail
        refine (year_any _ _ _).mono ?_; rintro e w' ⟨rfl, rfl⟩
        rw [HE.out]
        go_wp2_with fail
        refine (Lengths_any _ _ _ h1 h2 (by omega) (by omega)).mono ?_; rintro e w1 ⟨B, n, cap, rfl, hn, hB1, hB2, hx, hb⟩
        have HX := Lib.hid (And.intro hn (And.intro hx hb)); clear hn hx hb
        go_wp2_with fail
        go_ret2
        exact ⟨by unfold lenR; rw [HF.out]; rfl, HX.out.2.2⟩
      · by_cases hm1 : m < 1
        · exfalso; omega
        · go_enter Tryz.func90, Tryz.ntmps90
          go_wp2_with fail
          refine (year_any _ _ _).mono ?_; rintro e w' ⟨rfl, rfl⟩
          rw [HE.out]
          go_wp2_with fail
          refine (Lengths_any _ _ _ h1 h2 (by omega) (by omega)).mono ?_; rintro e w1 ⟨B, n, cap, rfl, hn, hB1, hB2, hx, hb⟩
          have hm2 : (n : Int) < m := by omega
          have HX := Lib.hid (And.intro hn (And.intro hx hb)); clear hn hx hb hm hml
          go_wp2_with fail
          go_ret2
          exact ⟨by unfold lenR; rw [HF.out]; rfl, HX.out.2.2⟩
    · have HF := Lib.hid (lenE_ok HE.out (show 1 ≤ m by omega) (show m ≤ Dm.months c y by omega))
      have hm1 : 1 ≤ m := by omega
      have hm1' : ¬ m < 1 := by omega
      go_enter Tryz.func90, Tryz.ntmps90
      go_wp2_with fail
      refine (year_any _ _ _).mono ?_; rintro e w' ⟨rfl, rfl⟩
      rw [HE.out]
      go_wp2_with fail
      refine (Lengths_any _ _ _ h1 h2 (by omega) (by omega)).mono ?_; rintro e w1 ⟨B, n, cap, rfl, hn, hB1, hB2, hx, hb⟩
      have hm2 : m ≤ (n : Int) := by omega
      have hm3 : (n : Int) ≤ 13 := by omega
      have hcell : w1.cell? ⟨B, m.toNat - 1, none⟩ = some (.int .i64 (Dm.length c y m)) := by
        have := hx (m.toNat - 1) (by omega)
        rw [this, show ((m.toNat - 1 : Nat) : Int) + 1 = m by omega]
      have HX := Lib.hid (And.intro hn (And.intro hx hb)); clear hn hx hb hm hml
      go_wp2_with fail
      go_ret2
      exact ⟨by unfold lenR; rw [HF.out]; rfl, HX.out.2.2⟩
end Go.Proofs.YtkfpnlenmdlmjaaGreatDoor
namespace Dm
/-- So many years that always have as many days. -/
def roundN (c : Int) : Int := if c = 1 ∨ c = 8 then 400 else if c = 9 then 4000 else if c = 2 ∨ c = 3 ∨ c = 4 then 4 else if c = 5 then 30 else if c = 6 then 2820 else if c = 10 then 1 else 0
def roundD (c : Int) : Int := if c = 1 ∨ c = 8 then 146097 else if c = 9 then 1460969 else if c = 2 ∨ c = 3 ∨ c = 4 then 1461 else if c = 5 then 10631 else if c = 6 then 1029983 else if c = 10 then 365 else 0
theorem start_round (c j k : Int) (h1 : 1 ≤ c) (h2 : c ≤ 10) (h7 : c ≠ 7) : start c (j + k * roundN c) = start c j + k * roundD c := by
  have hc : c = 1 ∨ c = 2 ∨ c = 3 ∨ c = 4 ∨ c = 5 ∨ c = 6 ∨ c = 8 ∨ c = 9 ∨ c = 10 := by omega
  rcases hc with rfl | rfl | rfl | rfl | rfl | rfl | rfl | rfl | rfl
  · simp [start, gStart, roundN, roundD]; omega
  · simp [start, roundN, roundD]; omega
  · simp [start, roundN, roundD]; omega
  · simp [start, roundN, roundD]; omega
  · simp only [start, roundN, roundD]; simp
    have e : 3 + 11 * (j + k * 30) = 3 + 11 * j + 11 * k * 30 := by omega
    rw [e, Int.add_mul_ediv_right _ _ (by decide)]; omega
  · simp only [start, roundN, roundD]; simp
    have e1 : (j + k * 2820 - 474) % 2820 = (j - 474) % 2820 := by omega
    have e2 : (j + k * 2820 - 474) / 2820 = (j - 474) / 2820 + k := by omega
    rw [e1, e2]; omega
  · simp [start, gStart, roundN, roundD]; omega
  · simp [start, roundN, roundD]; omega
  · simp [start, roundN, roundD]; omega
theorem start_one (c : Int) (h1 : 1 ≤ c) (h2 : c ≤ 10) (h7 : c ≠ 7) : start c 1 = 0 := by
  have hc : c = 1 ∨ c = 2 ∨ c = 3 ∨ c = 4 ∨ c = 5 ∨ c = 6 ∨ c = 8 ∨ c = 9 ∨ c = 10 := by omega
  rcases hc with rfl | rfl | rfl | rfl | rfl | rfl | rfl | rfl | rfl <;> decide
theorem start_bd (c y : Int) (h1 : 1 ≤ c) (h2 : c ≤ 10) (hy1 : -25000 ≤ y) (hy2 : y ≤ 25000) : -12000000 ≤ start c y ∧ start c y ≤ 12000000 := by
  have hc : c = 1 ∨ c = 2 ∨ c = 3 ∨ c = 4 ∨ c = 5 ∨ c = 6 ∨ c = 7 ∨ c = 8 ∨ c = 9 ∨ c = 10 := by omega
  rcases hc with rfl | rfl | rfl | rfl | rfl | rfl | rfl | rfl | rfl | rfl
  · simp [start, gStart]; omega
  · simp [start]; omega
  · simp [start]; omega
  · simp [start]; omega
  · simp [start]; omega
  · simp [start]; omega
  · simp only [start, hStart, elapsed, day0, moons]; simp
    have m1 : -400000 ≤ (235 * y - 234) / 19 ∧ (235 * y - 234) / 19 ≤ 400000 := by omega
    have m2 : -400000 ≤ (235 * (y + 1) - 234) / 19 ∧ (235 * (y + 1) - 234) / 19 ≤ 400000 := by omega
    have e : -9500000 ≤ elapsed y ∧ elapsed y ≤ 9500000 := by
      unfold elapsed day0 moons
      have m3 : -309500 ≤ (235 * y - 234) / 19 ∧ (235 * y - 234) / 19 ≤ 309500 := by omega
      generalize (235 * y - 234) / 19 = m at *
      split <;> omega
    change -12000000 ≤ hStart y ∧ hStart y ≤ 12000000
    unfold hStart
    split <;> (try split) <;> omega
  · simp [start, gStart]; omega
  · simp [start]; omega
  · simp [start]; omega
theorem length_bd (c y m : Int) : 0 ≤ length c y m ∧ length c y m ≤ 31 := by
  unfold length roman
  repeat' split
  all_goals (first | omega | (simp only []; repeat' split) )
  all_goals omega
theorem upTo_bd (c y : Int) (k : Nat) : 0 ≤ upTo c y k ∧ upTo c y k ≤ 31 * k := by
  induction k with
  | zero => simp [upTo]
  | succ k ih => have := length_bd c y (k + 1); simp only [upTo]; push_cast; omega
theorem first_bd (c : Int) : -2092590 ≤ first c ∧ first c ≤ -64748 := by
  unfold first; repeat' split
  all_goals omega
/-- The number of a date. -/
def dayOf (c y m d : Int) : Int := first c + start c y + d - 1 + upTo c y (m - 1).toNat
end Dm
namespace Go.Proofs.YtkfpnlenmdlmjaaGreatDoor
open Go.RowKit
set_option maxHeartbeats 400000 in
theorem Floor_one (a : Int) (w : World) (h1 : -1000000 ≤ a) (h2 : a ≤ 1000000) : Calls Tryz.prog 67 #[.int .i64 a, .int .i64 1] w fun e w' => e = .returned (.int .i64 a) ∧ w = w' := by
  have ht : a.tmod 1 = 0 := Int.tmod_one a
  have hd : a.tdiv 1 = a := Int.tdiv_one a
  have HT := Lib.hid ht; clear ht
  have HD := Lib.hid hd; clear hd
  go_enter Tryz.func67, Tryz.ntmps67
  go_wp2
  all_goals go_ret
  all_goals exact ⟨ret1 (by simp_all), rfl⟩
set_option maxHeartbeats 400000 in
theorem there_any (n : Int) (w : World) : Calls Tryz.prog 27 #[.int .i64 n] w fun e w' => e = .returned (.tuple #[.int .i64 (if -4000000 ≤ n ∧ n ≤ 4000000 then n else 0), .int .i64 (if -4000000 ≤ n ∧ n ≤ 4000000 then 0 else 4)]) ∧ w = w' := by
  by_cases h : -4000000 ≤ n ∧ n ≤ 4000000
  · obtain ⟨h1, h2⟩ := h
    rw [if_pos ⟨h1, h2⟩, if_pos ⟨h1, h2⟩]
    go_enter Tryz.func27, Tryz.ntmps27
    go_wp2
    go_ret2
    exact ⟨rfl, rfl⟩
  · rw [if_neg h, if_neg h]
    rcases (show n < -4000000 ∨ 4000000 < n by omega) with h1 | h1
    · clear h
      go_enter Tryz.func27, Tryz.ntmps27
      go_wp2
      go_ret2
      exact ⟨rfl, rfl⟩
    · clear h
      have h2 : ¬ n < -4000000 := by omega
      go_enter Tryz.func27, Tryz.ntmps27
      go_wp2
      go_ret2
      exact ⟨rfl, rfl⟩
set_option maxHeartbeats 1000000 in
theorem first_any (c : Int) (w : World) (c1 : 1 ≤ c) (c2 : c ≤ 10) : Calls Tryz.prog 116 #[.int .i64 c] w fun e w' => e = .returned (.int .i64 (Dm.first c)) ∧ Below w.heap.size w w' := by
  rcases ten c1 c2 with rfl | rfl | rfl | rfl | rfl | rfl | rfl | rfl | rfl | rfl
  all_goals
    clear c1 c2
    go_enter Tryz.func116, Tryz.ntmps116
    go_wp2
    go_ret
    exact ⟨rfl, (Below.refl _ _).alloc (Nat.le_refl _) _⟩
set_option maxHeartbeats 1000000 in
theorem round_any (c : Int) (w : World) (c1 : 1 ≤ c) (c2 : c ≤ 10) : Calls Tryz.prog 117 #[.int .i64 c] w fun e w' => e = .returned (.tuple #[.int .i64 (Dm.roundN c), .int .i64 (Dm.roundD c)]) ∧ w = w' := by
  rcases ten c1 c2 with rfl | rfl | rfl | rfl | rfl | rfl | rfl | rfl | rfl | rfl
  all_goals
    clear c1 c2
    go_enter Tryz.func117, Tryz.ntmps117
    go_wp2
    go_ret2
    exact ⟨rfl, rfl⟩
set_option maxHeartbeats 1000000 in
theorem YearDays_any (c y : Int) (w : World) (c1 : 1 ≤ c) (c2 : c ≤ 10) (h1 : -20090 ≤ y) (h2 : y ≤ 20890) : Calls Tryz.prog 53 #[.int .i64 c, .int .i64 y] w fun e w' => e = .returned (.int .i64 (Dm.yearDays c y)) ∧ Below w.heap.size w w' := by
  have hs := Dm.sum_all c y c1 c2 (by omega) (by omega)
  have HS := Lib.hid hs; clear hs
  go_enter Tryz.func53, Tryz.ntmps53
  go_wp2_with fail
  refine (Lengths_any _ _ _ c1 c2 (by omega) (by omega)).mono ?_; rintro e w1 ⟨B, n, cap, rfl, hn, hB1, hB2, hx, hb⟩
  have hml := Dm.months_lo c y
  have hn13 : n ≤ 13 := by omega
  have HX := Lib.hid (And.intro hn (And.intro hx hb)); clear hn hx hb hml
  go_wp2_with fail
  go_loop [5, 7] (fun t i => ∃ k : Nat, k ≤ n ∧ i = .int .i64 k ∧ t = .int .i64 (Dm.upTo c y k)) (fun _ i => n - (intOf i).toNat)
  case atStart => exact ⟨0, Nat.zero_le _, rfl, rfl⟩
  case round =>
    obtain ⟨k, hk, rfl, rfl⟩ := hrel
    have hbd := Dm.upTo_bd c y k
    have hl := Dm.length_bd c y (k + 1)
    by_cases hlt : k < n
    · have hcell := HX.out.2.1 k hlt
      have HU : Hid (Dm.upTo c y (k + 1) = Dm.upTo c y k + Dm.length c y (k + 1)) := Lib.hid rfl
      go_wp2
      go_round
      case rel => exact ⟨k + 1, by omega, by go_num, by rw [HU.out]⟩
      case measure => simp [intOf]; omega
    · obtain rfl : k = n := by omega
      go_wp2
      go_ret
      exact ⟨ret1 (by rw [← HS.out, ← HX.out.1]; simp), HX.out.2.2⟩
end Go.Proofs.YtkfpnlenmdlmjaaGreatDoor
