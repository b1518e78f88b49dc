/- The number of a date: the document's. -/
import Derived.Test.YtbgcccfgcdkmdaaGreatDoorDaysK
namespace Go.Proofs.YtbgcccfgcdkmdaaGreatDoor
open Go.RowKit
/-- What is wrong with a date, but for the range. -/
def dateE (c y m d : Int) : Int := if lenE c y m ≠ 0 then lenE c y m else if d < 1 ∨ Dm.length c y m < d then 3 else 0
def dayE (c y m d : Int) : Int := if dateE c y m d ≠ 0 then dateE c y m d else if -4000000 ≤ Dm.dayOf c y m d ∧ Dm.dayOf c y m d ≤ 4000000 then 0 else 4
def dayR (c y m d : Int) : Int := if dayE c y m d = 0 then Dm.dayOf c y m d else 0
/-- The ways of a date. -/
theorem date_ways (c y m d : Int) : (lenE c y m ≠ 0) ∨ (lenE c y m = 0 ∧ (d < 1 ∨ Dm.length c y m < d)) ∨ (lenE c y m = 0 ∧ 1 ≤ d ∧ d ≤ Dm.length c y m) := by omega
theorem lenE_parts {c y m : Int} (h : lenE c y m = 0) : 1 ≤ c ∧ c ≤ 10 ∧ -20000 ≤ y ∧ y ≤ 20000 ∧ 1 ≤ m ∧ m ≤ Dm.months c y := by
  rcases year_ways c y with h0 | ⟨h1, h2, h0⟩ | ⟨h1, h2, h3, h4⟩
  · rw [lenE_bad (by rw [yearE_cal h0]; decide), yearE_cal h0] at h; exact absurd h (by decide)
  · rw [lenE_bad (by rw [yearE_range h1 h2 h0]; decide), yearE_range h1 h2 h0] at h; exact absurd h (by decide)
  · by_cases hm : m < 1 ∨ Dm.months c y < m
    · rw [lenE_date (yearE_ok h1 h2 h3 h4) hm] at h; exact absurd h (by decide)
    · omega
theorem dayE_len {c y m d : Int} (h : lenE c y m ≠ 0) : dayE c y m d = lenE c y m ∧ dayR c y m d = 0 := by
  have e : dateE c y m d = lenE c y m := if_pos h
  have e2 : dayE c y m d = lenE c y m := by unfold dayE; rw [e, if_pos h]
  exact ⟨e2, by unfold dayR; rw [e2, if_neg h]⟩
theorem dayE_date {c y m d : Int} (h : lenE c y m = 0) (hd : d < 1 ∨ Dm.length c y m < d) : dayE c y m d = 3 ∧ dayR c y m d = 0 := by
  have e : dateE c y m d = 3 := by unfold dateE; rw [if_neg (by simp [h]), if_pos hd]
  have e2 : dayE c y m d = 3 := by unfold dayE; rw [e, if_pos (by decide)]
  exact ⟨e2, by unfold dayR; rw [e2, if_neg (by decide)]⟩
theorem dayE_ok {c y m d : Int} (h : lenE c y m = 0) (hd1 : 1 ≤ d) (hd2 : d ≤ Dm.length c y m) : dayE c y m d = (if -4000000 ≤ Dm.dayOf c y m d ∧ Dm.dayOf c y m d ≤ 4000000 then 0 else 4) ∧ dayR c y m d = (if -4000000 ≤ Dm.dayOf c y m d ∧ Dm.dayOf c y m d ≤ 4000000 then Dm.dayOf c y m d else 0) := by
  have e : dateE c y m d = 0 := by unfold dateE; rw [if_neg (by simp [h]), if_neg (by omega)]
  have e2 : dayE c y m d = (if -4000000 ≤ Dm.dayOf c y m d ∧ Dm.dayOf c y m d ≤ 4000000 then 0 else 4) := by unfold dayE; rw [e, if_neg (by simp)]
  refine ⟨e2, ?_⟩
  unfold dayR
  rw [e2]
  split <;> simp
set_option maxHeartbeats 2000000 in
theorem refDay_any (c y m d : Int) (w : World) : Calls Tryz.prog 88 #[.agg #[.int .i64 c, .int .i64 y, .int .i64 m, .int .i64 d]] w fun e w' => e = .returned (.tuple #[.int .i64 (dayR c y m d), .int .i64 (dayE c y m d)]) ∧ Below w.heap.size w w' := by
  rcases date_ways c y m d with h | ⟨h, hd⟩ | ⟨h, hd1, hd2⟩
  · have HE := Lib.hid (dayE_len (d := d) h)
    have hne : (lenE c y m == 0) = false := by simpa using h
    have hne' : (lenE c y m != 0) = true := by simpa using h
    clear h
    go_enter Tryz.func88, Tryz.ntmps88
    go_wp2_with fail
    refine (refLength_any _ _ _ _).mono ?_; rintro e w1 ⟨rfl, hb1⟩
    have HB1 := Lib.hid (offA hb1); clear hb1
    go_wp2_with fail
    go_ret2
    exact ⟨by rw [HE.out.1, HE.out.2]; rfl, HB1.out⟩
  · have HE := Lib.hid (dayE_date h hd)
    have hL : lenR c y m = Dm.length c y m := by unfold lenR; rw [h, if_pos rfl]
    have HL := Lib.hid (And.intro h hL); clear h hL
    rcases hd with hd | hd
    all_goals
      try have hd' : ¬ d < 1 := by have := Dm.length_bd c y m; omega
      go_enter Tryz.func88, Tryz.ntmps88
      go_wp2_with fail
      refine (refLength_any _ _ _ _).mono ?_; rintro e w1 ⟨rfl, hb1⟩
      rw [HL.out.1, HL.out.2]
      have hz1 := hb1.size
      simp only [World.size_alloc] at hz1
      obtain ⟨q1, p1⟩ := carry hb1 w.heap.size (by simp)
      have HB1 := Lib.hid (offA hb1); clear hb1
      go_wp2_with fail
      go_ret2
      exact ⟨by rw [HE.out.1, HE.out.2]; rfl, HB1.out⟩
  · obtain ⟨c1, c2, y1, y2, m1, m2⟩ := lenE_parts h
    have HE := Lib.hid (dayE_ok h hd1 hd2)
    have hL : lenR c y m = Dm.length c y m := by unfold lenR; rw [h, if_pos rfl]
    have HL := Lib.hid (And.intro h hL); clear h hL
    have b1 := Dm.first_bd c
    have b2 := Dm.start_bd c y c1 c2 (by omega) (by omega)
    have b3 := Dm.length_bd c y m
    have b4 := Dm.months_lo c y
    have hd' : ¬ d < 1 := by omega
    go_enter Tryz.func88, Tryz.ntmps88
    go_wp2_with fail
    refine (refLength_any _ _ _ _).mono ?_; rintro e w1 ⟨rfl, hb1⟩
    rw [HL.out.1, HL.out.2]
    have hz1 := hb1.size
    simp only [World.size_alloc] at hz1
    obtain ⟨q1, p1⟩ := carry hb1 w.heap.size (by simp)
    have HB1 := Lib.hid (offA hb1); clear hb1
    go_wp2_with fail
    have hy3 : -20000 ≤ y := y1
    go_region_with (go_at_call 52; refine (YearStart_any _ _ _ c1 c2 (by omega) (by omega)).mono ?_; rintro e w2 ⟨rfl, hb2⟩; have hz2 := (offD hb2).size; obtain ⟨q2, p2⟩ := carry (offD hb2) w.heap.size (by omega); have HB2 := Lib.hid (thenB HB1.out (offD hb2)); clear hb2)
    all_goals
      go_wp2_with fail
      refine (Lengths_any _ _ _ c1 c2 (by omega) (by omega)).mono ?_; rintro e w3 ⟨B, n, cap, rfl, hn, hB1, hB2, hx, hb3⟩
      have hz3 := hb3.size
      obtain ⟨q3, p3⟩ := carry hb3 w.heap.size (by omega)
      have HX := Lib.hid (And.intro hx (thenB HB2.out hb3)); clear hx hb3
      have hmn : m ≤ (n : Int) := by omega
      have hn13 : n ≤ 13 := by omega
      clear hn m2
      go_wp2_with fail
      go_loop [6, 8] (fun day i => ∃ t : Nat, (t : Int) + 1 ≤ m ∧ i = .int .i64 (t + 1) ∧ day = .int .i64 (Dm.first c + Dm.start c y + d - 1 + Dm.upTo c y t)) (fun _ i => 14 - (intOf i).toNat)
      case atStart => exact ⟨0, by omega, rfl, by simp [Dm.upTo]⟩
      case round =>
        obtain ⟨t, ht, rfl, rfl⟩ := hrel
        have b5 := Dm.upTo_bd c y t
        have b6 := Dm.length_bd c y (t + 1)
        by_cases hlt : (t : Int) + 1 < m
        · have hcell := HX.out.1 t (by omega)
          have HU : Hid (Dm.upTo c y (t + 1) = Dm.upTo c y t + Dm.length c y (t + 1)) := Lib.hid rfl
          go_wp2_with fail
          go_round
          case rel => exact ⟨t + 1, by omega, by go_num, by rw [HU.out]; congr 1; omega⟩
          case measure => simp [intOf]; omega
        · have ht' : t = (m - 1).toNat := by omega
          have HT := Lib.hid ht'; clear ht'
          have hD : Dm.first c + Dm.start c y + d - 1 + Dm.upTo c y t = Dm.dayOf c y m d := by rw [HT.out]; rfl
          have HD := Lib.hid hD; clear hD
          by_cases hrg : -4000000 ≤ Dm.first c + Dm.start c y + d - 1 + Dm.upTo c y t ∧ Dm.first c + Dm.start c y + d - 1 + Dm.upTo c y t ≤ 4000000
          all_goals
            have HG := Lib.hid hrg; clear hrg
            go_wp2_with fail
            refine (there_any _ _).mono ?_; rintro e w4 ⟨rfl, rfl⟩
            first | rw [if_pos HG.out, if_pos HG.out] | rw [if_neg HG.out, if_neg HG.out]
            go_wp2_with fail
            go_ret2
            exact ⟨by rw [HE.out.1, HE.out.2, ← HD.out]; first | (rw [if_pos HG.out, if_pos HG.out]; rfl) | (rw [if_neg HG.out, if_neg HG.out]; rfl), HX.out.2⟩
end Go.Proofs.YtbgcccfgcdkmdaaGreatDoor
