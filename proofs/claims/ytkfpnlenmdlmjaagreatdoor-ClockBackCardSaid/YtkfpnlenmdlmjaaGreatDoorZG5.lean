/- The number of a date: the document's. The number of a date: the program's. Plain mathematics of ten calendars, third part: bounds of years, and that one day has one date. -/
import Derived.Test.YtkfpnlenmdlmjaaGreatDoorZDaysK
import Derived.Deep.QuietTactic
import Derived.BigQuiet
import Derived.Test.YtkfpnlenmdlmjaaGreatDoorZG4
namespace Go.Proofs.YtkfpnlenmdlmjaaGreatDoor
open Go.RowKit
/-- What is wrong with a date, but for the range. -/
def dateE (c y m d : Int) : Int := if lenE c y m ≠ 0 then lenE c y m else if d < 1 ∨ Dm.length c y m < d then 3 else 0
def dayE (c y m d : Int) : Int := if dateE c y m d ≠ 0 then dateE c y m d else if -4000000 ≤ Dm.dayOf c y m d ∧ Dm.dayOf c y m d ≤ 4000000 then 0 else 4
def dayR (c y m d : Int) : Int := if dayE c y m d = 0 then Dm.dayOf c y m d else 0
/-- The ways of a date. -/
theorem date_ways (c y m d : Int) : (lenE c y m ≠ 0) ∨ (lenE c y m = 0 ∧ (d < 1 ∨ Dm.length c y m < d)) ∨ (lenE c y m = 0 ∧ 1 ≤ d ∧ d ≤ Dm.length c y m) := by omega
theorem lenE_parts {c y m : Int} (h : lenE c y m = 0) : 1 ≤ c ∧ c ≤ 10 ∧ -20000 ≤ y ∧ y ≤ 20000 ∧ 1 ≤ m ∧ m ≤ Dm.months c y := by
  rcases year_ways c y with h0 | ⟨h1, h2, h0⟩ | ⟨h1, h2, h3, h4⟩
  · rw [lenE_bad (by rw [yearE_cal h0]; decide), yearE_cal h0] at h; exact absurd h (by decide)
  · rw [lenE_bad (by rw [yearE_range h1 h2 h0]; decide), yearE_range h1 h2 h0] at h; exact absurd h (by decide)
  · by_cases hm : m < 1 ∨ Dm.months c y < m
    · rw [lenE_date (yearE_ok h1 h2 h3 h4) hm] at h; exact absurd h (by decide)
    · omega
theorem dayE_len {c y m d : Int} (h : lenE c y m ≠ 0) : dayE c y m d = lenE c y m ∧ dayR c y m d = 0 := by
  have e : dateE c y m d = lenE c y m := if_pos h
  have e2 : dayE c y m d = lenE c y m := by unfold dayE; rw [e, if_pos h]
  exact ⟨e2, by unfold dayR; rw [e2, if_neg h]⟩
theorem dayE_date {c y m d : Int} (h : lenE c y m = 0) (hd : d < 1 ∨ Dm.length c y m < d) : dayE c y m d = 3 ∧ dayR c y m d = 0 := by
  have e : dateE c y m d = 3 := by unfold dateE; rw [if_neg (by simp [h]), if_pos hd]
  have e2 : dayE c y m d = 3 := by unfold dayE; rw [e, if_pos (by decide)]
  exact ⟨e2, by unfold dayR; rw [e2, if_neg (by decide)]⟩
theorem dayE_ok {c y m d : Int} (h : lenE c y m = 0) (hd1 : 1 ≤ d) (hd2 : d ≤ Dm.length c y m) : dayE c y m d = (if -4000000 ≤ Dm.dayOf c y m d ∧ Dm.dayOf c y m d ≤ 4000000 then 0 else 4) ∧ dayR c y m d = (if -4000000 ≤ Dm.dayOf c y m d ∧ Dm.dayOf c y m d ≤ 4000000 then Dm.dayOf c y m d else 0) := by
  have e : dateE c y m d = 0 := by unfold dateE; rw [if_neg (by simp [h]), if_neg (by omega)]
  have e2 : dayE c y m d = (if -4000000 ≤ Dm.dayOf c y m d ∧ Dm.dayOf c y m d ≤ 4000000 then 0 else 4) := by unfold dayE; rw [e, if_neg (by simp)]
  refine ⟨e2, ?_⟩
  unfold dayR
  rw [e2]
  split <;> simp
set_option maxHeartbeats 2000000 in
theorem refDay_any (c y m d : Int) (w : World) : Calls Tryz.prog 52 #[.agg #[.int .i64 c, .int .i64 y, .int .i64 m, .int .i64 d]] w fun e w' => e = .returned (.tuple #[.int .i64 (dayR c y m d), .int .i64 (dayE c y m d)]) ∧ Below w.heap.size w w' := by
  rcases date_ways c y m d with h | ⟨h, hd⟩ | ⟨h, hd1, hd2⟩
  · have HE := Lib.hid (dayE_len (d := d) h)
    have hne : (lenE c y m == 0) = false := by simpa using h
    have hne' : (lenE c y m != 0) = true := by simpa using h
    clear h
    go_enter Tryz.func52, Tryz.ntmps52
    go_wp2_with fail
    refine (refLength_any _ _ _ _).mono ?_; rintro e w1 ⟨rfl, hb1⟩
    have HB1 := Lib.hid (offA hb1); clear hb1
    go_wp2_with fail
    go_ret2
    exact ⟨by rw [HE.out.1, HE.out.2]; rfl, HB1.out⟩
  · have HE := Lib.hid (dayE_date h hd)
    have hL : lenR c y m = Dm.length c y m := by unfold lenR; rw [h, if_pos rfl]
    have HL := Lib.hid (And.intro h hL); clear h hL
    rcases hd with hd | hd
    all_goals
      try have hd' : ¬ d < 1 := by have := Dm.length_bd c y m; omega
      go_enter Tryz.func52, Tryz.ntmps52
      go_wp2_with fail
      refine (refLength_any _ _ _ _).mono ?_; rintro e w1 ⟨rfl, hb1⟩
      rw [HL.out.1, HL.out.2]
      have hz1 := hb1.size
      simp only [World.size_alloc] at hz1
      obtain ⟨q1, p1⟩ := carry hb1 w.heap.size (by simp)
      have HB1 := Lib.hid (offA hb1); clear hb1
      go_wp2_with fail
      go_ret2
      exact ⟨by rw [HE.out.1, HE.out.2]; rfl, HB1.out⟩
  · obtain ⟨c1, c2, y1, y2, m1, m2⟩ := lenE_parts h
    have HE := Lib.hid (dayE_ok h hd1 hd2)
    have hL : lenR c y m = Dm.length c y m := by unfold lenR; rw [h, if_pos rfl]
    have HL := Lib.hid (And.intro h hL); clear h hL
    have b1 := Dm.first_bd c
    have b2 := Dm.start_bd c y c1 c2 (by omega) (by omega)
    have b3 := Dm.length_bd c y m
    have b4 := Dm.months_lo c y
    have hd' : ¬ d < 1 := by omega
    go_enter Tryz.func52, Tryz.ntmps52
    go_wp2_with fail
    refine (refLength_any _ _ _ _).mono ?_; rintro e w1 ⟨rfl, hb1⟩
    rw [HL.out.1, HL.out.2]
    have hz1 := hb1.size
    simp only [World.size_alloc] at hz1
    obtain ⟨q1, p1⟩ := carry hb1 w.heap.size (by simp)
    have HB1 := Lib.hid (offA hb1); clear hb1
    go_wp2_with fail
    have hy3 : -20000 ≤ y := y1
    go_region_with (go_at_call 91; refine (YearStart_any _ _ _ c1 c2 (by omega) (by omega)).mono ?_; rintro e w2 ⟨rfl, hb2⟩; have hz2 := (offD hb2).size; obtain ⟨q2, p2⟩ := carry (offD hb2) w.heap.size (by omega); have HB2 := Lib.hid (thenB HB1.out (offD hb2)); clear hb2)
    all_goals
      go_wp2_with fail
      refine (Lengths_any _ _ _ c1 c2 (by omega) (by omega)).mono ?_; rintro e w3 ⟨B, n, cap, rfl, hn, hB1, hB2, hx, hb3⟩
      have hz3 := hb3.size
      obtain ⟨q3, p3⟩ := carry hb3 w.heap.size (by omega)
      have HX := Lib.hid (And.intro hx (thenB HB2.out hb3)); clear hx hb3
      have hmn : m ≤ (n : Int) := by omega
      have hn13 : n ≤ 13 := by omega
      clear hn m2
      go_wp2_with fail
      go_loop [6, 8] (fun day i => ∃ t : Nat, (t : Int) + 1 ≤ m ∧ i = .int .i64 (t + 1) ∧ day = .int .i64 (Dm.first c + Dm.start c y + d - 1 + Dm.upTo c y t)) (fun _ i => 14 - (intOf i).toNat)
      case atStart => exact ⟨0, by omega, rfl, by simp [Dm.upTo]⟩
      case round =>
        obtain ⟨t, ht, rfl, rfl⟩ := hrel
        have b5 := Dm.upTo_bd c y t
        have b6 := Dm.length_bd c y (t + 1)
        by_cases hlt : (t : Int) + 1 < m
        · have hcell := HX.out.1 t (by omega)
          have HU : Hid (Dm.upTo c y (t + 1) = Dm.upTo c y t + Dm.length c y (t + 1)) := Lib.hid rfl
          go_wp2_with fail
          go_round
          case rel => exact ⟨t + 1, by omega, by go_num, by rw [HU.out]; congr 1; omega⟩
          case measure => simp [intOf]; omega
        · have ht' : t = (m - 1).toNat := by omega
          have HT := Lib.hid ht'; clear ht'
          have hD : Dm.first c + Dm.start c y + d - 1 + Dm.upTo c y t = Dm.dayOf c y m d := by rw [HT.out]; rfl
          have HD := Lib.hid hD; clear hD
          by_cases hrg : -4000000 ≤ Dm.first c + Dm.start c y + d - 1 + Dm.upTo c y t ∧ Dm.first c + Dm.start c y + d - 1 + Dm.upTo c y t ≤ 4000000
          all_goals
            have HG := Lib.hid hrg; clear hrg
            go_wp2_with fail
            refine (there_any _ _).mono ?_; rintro e w4 ⟨rfl, rfl⟩
            first | rw [if_pos HG.out, if_pos HG.out] | rw [if_neg HG.out, if_neg HG.out]
            go_wp2_with fail
            go_ret2
            exact ⟨by rw [HE.out.1, HE.out.2, ← HD.out]; first | (rw [if_pos HG.out, if_pos HG.out]; rfl) | (rw [if_neg HG.out, if_neg HG.out]; rfl), HX.out.2⟩
end Go.Proofs.YtkfpnlenmdlmjaaGreatDoor
namespace Go.Proofs.YtkfpnlenmdlmjaaGreatDoor
open Go.RowKit
def rangeR (x : Int) : Int := if -4000000 ≤ x ∧ x ≤ 4000000 then x else 0
def rangeE (x : Int) : Int := if -4000000 ≤ x ∧ x ≤ 4000000 then 0 else 4
theorem range_in {x : Int} (h1 : -4000000 ≤ x) (h2 : x ≤ 4000000) : rangeR x = x ∧ rangeE x = 0 := ⟨if_pos ⟨h1, h2⟩, if_pos ⟨h1, h2⟩⟩
theorem range_out {x : Int} (h : x < -4000000 ∨ 4000000 < x) : rangeR x = 0 ∧ rangeE x = 4 := ⟨if_neg (by omega), if_neg (by omega)⟩
theorem belowN {B : Nat} {a w : World} (h : Below B a w) (n : Nat) : Below B a (w.drewN n) := ⟨h.os, h.tape, h.output, h.size, h.block⟩
theorem quiet_left {P : Program} {f : FuncId} {args : Array Value} {w : World} {n : Nat} {v : Value}
    (h : Calls P f args (w.drewN n) fun e w' => e = .returned v ∧ w.drewN n = w') : Calls P f args (w.drewN n) fun e w'' => e = .returned v ∧ ∃ m, w'' = w.drewN m :=
  h.mono fun _ _ ⟨he, hm⟩ => ⟨he, n, hm.symm⟩
set_option maxHeartbeats 2000000 in
theorem day_len (c y m d : Int) (w : World) (hr : RomanT w) (h : lenE c y m ≠ 0) : Calls Tryz.prog 82 #[.agg #[.int .i64 c, .int .i64 y, .int .i64 m, .int .i64 d]] w fun e w' => e = .returned (.tuple #[.int .i64 0, errV (lenE c y m)]) ∧ Below w.heap.size w w' := by
  have hv := errV_hit h
  have HV := Lib.hid (And.intro hv hr); clear hv hr h
  go_enter Tryz.func82, Tryz.ntmps82
  go_wp2_with fail
  refine (length_all _ _ _ _ (RomanT.alloc HV.out.2 _)).mono ?_; rintro e w1 ⟨rfl, hb1⟩
  rw [HV.out.1]
  have HB1 := Lib.hid (offA hb1); clear hb1
  go_wp2_with fail
  go_ret2
  exact ⟨by rw [HV.out.1]; rfl, HB1.out⟩
set_option maxHeartbeats 2000000 in
theorem day_date (c y m d : Int) (w : World) (hr : RomanT w) (h : lenE c y m = 0) (hd : d < 1 ∨ Dm.length c y m < d) : Calls Tryz.prog 82 #[.agg #[.int .i64 c, .int .i64 y, .int .i64 m, .int .i64 d]] w fun e w' => e = .returned (.tuple #[.int .i64 0, errV 3]) ∧ Below w.heap.size w w' := by
  have hL : lenR c y m = Dm.length c y m := by unfold lenR; rw [h, if_pos rfl]
  have HL := Lib.hid (And.intro h (And.intro hL hr)); clear h hL hr
  rcases hd with hd | hd
  all_goals
    try have hd' : ¬ d < 1 := by have := Dm.length_bd c y m; omega
    go_enter Tryz.func82, Tryz.ntmps82
    go_wp2_with fail
    refine (length_all _ _ _ _ (RomanT.alloc HL.out.2.2 _)).mono ?_; rintro e w1 ⟨rfl, hb1⟩
    rw [HL.out.1, HL.out.2.1, errV_nil]
    have hz1 := hb1.size
    simp only [World.size_alloc] at hz1
    obtain ⟨q1, p1⟩ := carry hb1 w.heap.size (by simp)
    have HB1 := Lib.hid (offA hb1); clear hb1
    go_wp2_with fail
    go_ret2
    exact ⟨rfl, HB1.out⟩
set_option maxHeartbeats 4000000 in
theorem day_ok (c y m d : Int) (w : World) (hr : RomanT w) (h : lenE c y m = 0) (hd1 : 1 ≤ d) (hd2 : d ≤ Dm.length c y m) : Calls Tryz.prog 82 #[.agg #[.int .i64 c, .int .i64 y, .int .i64 m, .int .i64 d]] w fun e w' => e = .returned (.tuple #[.int .i64 (rangeR (Dm.dayOf c y m d)), errV (rangeE (Dm.dayOf c y m d))]) ∧ Below w.heap.size w w' := by
  obtain ⟨c1, c2, y1, y2, m1, m2⟩ := lenE_parts h
  have hL : lenR c y m = Dm.length c y m := by unfold lenR; rw [h, if_pos rfl]
  have HL := Lib.hid (And.intro h (And.intro hL hr)); clear h hL hr
  have b1 := Dm.first_bd c
  have b2 := Dm.start_bd c y c1 c2 (by omega) (by omega)
  have b3 := Dm.length_bd c y m
  have b4 := Dm.months_lo c y
  have hd' : ¬ d < 1 := by omega
  have hm13 : m ≤ 13 := by omega
  go_enter Tryz.func82, Tryz.ntmps82
  go_wp2_with fail
  refine (length_all _ _ _ _ (RomanT.alloc HL.out.2.2 _)).mono ?_; rintro e w1 ⟨rfl, hb1⟩
  rw [HL.out.1, HL.out.2.1, errV_nil]
  have hz1 := hb1.size
  simp only [World.size_alloc] at hz1
  obtain ⟨q1, p1⟩ := carry hb1 w.heap.size (by simp)
  have HR1 := Lib.hid ((RomanT.alloc HL.out.2.2 _).call hb1)
  have HB1 := Lib.hid (offA hb1); clear hb1
  go_wp2_with fail
  refine (of_any _ _ HR1.out c1 c2).mono ?_; rintro e w2 ⟨sf, lf, mf, gf, mc, gc, mB, gB, rfl, hS, hmB, hgB, hb2⟩
  unfold schV
  have hz2 := hb2.size
  obtain ⟨q2, p2⟩ := carry hb2 w.heap.size (by omega)
  have hs2 : w.heap.size < w2.heap.size := by omega
  have hse := hS.se
  have hge := hS.ge
  have hlt2 := hS.glt
  have HR2 := Lib.hid (RomanT.call HR1.out hb2)
  have HB2 := Lib.hid (thenB HB1.out hb2); clear hb2
  have HS := Lib.hid (And.intro hS m2); clear hS hmB hgB m2
  go_wp2_with fail
  go_quiet ((exact quiet_left (HS.out.1.start _ _ (by omega) (by omega))))
  go_wp2_with fail
  go_loopw [8, 9] (fun day i wr => ∃ t : Nat, (t : Int) + 1 ≤ m ∧ i = .int .i64 (t + 1) ∧ day = .int .i64 (Dm.first c + Dm.start c y + d - 1 + Dm.upTo c y t) ∧
      (∀ o, wr.cell? ⟨w.heap.size, o, none⟩ = w2.cell? ⟨w.heap.size, o, none⟩) ∧
      (∀ o, wr.cell? ⟨w2.heap.size, o, none⟩ = (w2.alloc (.cells #[.int .i64 (Dm.first c), .func (Fn.func sf) #[] #[], .func (Fn.func lf) #[] #[], .func (Fn.func mf) #[] mc, .func (Fn.func gf) #[] gc] 182)).cell? ⟨w2.heap.size, o, none⟩) ∧
      wr.cell? ⟨gB, 0, none⟩ = w2.cell? ⟨gB, 0, none⟩ ∧ Hid (RomanT wr) ∧ Hid (Below w.heap.size w wr)) (fun _ i _ => 14 - (intOf i).toNat)
  case atStart =>
    exact ⟨0, by omega, rfl, by simp [Dm.upTo], fun o => (cell_alloc (by omega) : (w2.alloc _).cell? _ = _), fun o => rfl, (cell_alloc hlt2 : (w2.alloc _).cell? _ = _), Lib.hid (fun i hi => (RomanT.alloc HR2.out _) i hi), Lib.hid (belowN (HB2.out.trans ((offA (Below.refl _ _)).mono (by have := HB2.out.size; omega))) _)⟩
  case round =>
    obtain ⟨t, ht, rfl, rfl, r1, r2, r3, HRr, HBr⟩ := hrel
    have b5 := Dm.upTo_bd c y t
    have b6 := Dm.length_bd c y (t + 1)
    by_cases hlt : (t : Int) + 1 < m
    · have HU : Hid (Dm.upTo c y (t + 1) = Dm.upTo c y t + Dm.length c y (t + 1)) := Lib.hid rfl
      have hmm : (t : Int) + 1 ≤ Dm.months c y := by have := HS.out.2; omega
      go_wp2_with fail
      refine (HS.out.1.length _ _ _ (by omega) (by omega) (by omega) hmm r3 HRr.out).mono ?_; rintro e w3 ⟨rfl, rfl⟩
      go_wp2_with fail
      go_roundw
      case rel => exact ⟨t + 1, by omega, by go_num, by rw [HU.out]; congr 1; omega, r1, r2, r3, HRr, HBr⟩
      case measure => simp [intOf]; omega
    · have ht' : t = (m - 1).toNat := by omega
      have HT := Lib.hid ht'; clear ht'
      have hD : Dm.first c + Dm.start c y + d - 1 + Dm.upTo c y t = Dm.dayOf c y m d := by rw [HT.out]; rfl
      have HD := Lib.hid hD; clear hD
      rcases (show Dm.first c + Dm.start c y + d - 1 + Dm.upTo c y t < -4000000 ∨ 4000000 < Dm.first c + Dm.start c y + d - 1 + Dm.upTo c y t ∨ (-4000000 ≤ Dm.first c + Dm.start c y + d - 1 + Dm.upTo c y t ∧ Dm.first c + Dm.start c y + d - 1 + Dm.upTo c y t ≤ 4000000) by omega) with hg | hg | ⟨hg1, hg2⟩
      · go_wp2_with fail
        go_ret2
        exact ⟨by rw [← HD.out, (range_out (by omega)).1, (range_out (by omega)).2]; rfl, HBr.out⟩
      · have hg0 : ¬ Dm.first c + Dm.start c y + d - 1 + Dm.upTo c y t < -4000000 := by omega
        go_wp2_with fail
        go_ret2
        exact ⟨by rw [← HD.out, (range_out (by omega)).1, (range_out (by omega)).2]; rfl, HBr.out⟩
      · go_wp2_with fail
        go_ret2
        exact ⟨by rw [← HD.out, (range_in hg1 hg2).1, (range_in hg1 hg2).2]; rfl, HBr.out⟩
theorem day_all (c y m d : Int) (w : World) (hr : RomanT w) : Calls Tryz.prog 82 #[.agg #[.int .i64 c, .int .i64 y, .int .i64 m, .int .i64 d]] w fun e w' => e = .returned (.tuple #[.int .i64 (dayR c y m d), errV (dayE c y m d)]) ∧ Below w.heap.size w w' := by
  rcases date_ways c y m d with h | ⟨h, hd⟩ | ⟨h, hd1, hd2⟩
  · rw [(dayE_len h).1, (dayE_len h).2]; exact day_len c y m d w hr h
  · rw [(dayE_date h hd).1, (dayE_date h hd).2]; exact day_date c y m d w hr h hd
  · rw [(dayE_ok h hd1 hd2).1, (dayE_ok h hd1 hd2).2]; exact day_ok c y m d w hr h hd1 hd2
end Go.Proofs.YtkfpnlenmdlmjaaGreatDoor
namespace Dm
/-- Years lie between 354 and 366 days apart, on the whole. -/
def Lin (y s : Int) : Prop := (1 ≤ y → 354 * (y - 1) - 100 ≤ s ∧ s ≤ 366 * (y - 1) + 100) ∧ (y ≤ 1 → 366 * (y - 1) - 100 ≤ s ∧ s ≤ 354 * (y - 1) + 100)
theorem lin_elapsed (y : Int) : (1 ≤ y → 354 * (y - 1) - 50 ≤ elapsed y ∧ elapsed y ≤ 366 * (y - 1) + 50) ∧ (y ≤ 1 → 366 * (y - 1) - 50 ≤ elapsed y ∧ elapsed y ≤ 354 * (y - 1) + 50) := by
  unfold elapsed day0 moons
  generalize hm : (235 * y - 234) / 19 = m
  have h1 : 19 * m ≤ 235 * y - 234 := by omega
  have h2 : 235 * y - 234 < 19 * m + 19 := by omega
  clear hm
  generalize hq : (12084 + 13753 * m) / 25920 = q
  have h3 : 25920 * q ≤ 12084 + 13753 * m := by omega
  have h4 : 12084 + 13753 * m < 25920 * q + 25920 := by omega
  clear hq
  split <;> omega
theorem lin_start (c y : Int) (h1 : 1 ≤ c) (h2 : c ≤ 10) : Lin y (start c y) := by
  unfold Lin
  have hc : c = 1 ∨ c = 2 ∨ c = 3 ∨ c = 4 ∨ c = 5 ∨ c = 6 ∨ c = 7 ∨ c = 8 ∨ c = 9 ∨ c = 10 := by omega
  rcases hc with rfl | rfl | rfl | rfl | rfl | rfl | rfl | rfl | rfl | rfl
  · simp only [start, gStart]; simp; omega
  · simp only [start]; simp; omega
  · simp only [start]; simp; omega
  · simp only [start]; simp; omega
  · simp only [start]; simp; omega
  · simp only [start]; simp
    generalize hr : (y - 474) % 2820 = r
    generalize hq : (y - 474) / 2820 = q
    have : y - 474 = 2820 * q + r ∧ 0 ≤ r ∧ r < 2820 := by omega
    clear hr hq
    obtain ⟨e, r1, r2⟩ := this
    obtain rfl : y = 2820 * q + r + 474 := by omega
    omega
  · have := lin_elapsed y
    simp only [start, hStart]; simp
    split <;> (try split) <;> omega
  · simp only [start, gStart]; simp; omega
  · simp only [start]; simp; omega
  · simp only [start]; simp; omega
theorem start_mono (c a : Int) (k : Nat) (c1 : 1 ≤ c) (c2 : c ≤ 10) (h1 : -20099 ≤ a) (h2 : a + k ≤ 20899) : start c a + 353 * k ≤ start c (a + k) := by
  induction k with
  | zero => simp
  | succ k ih =>
    have hd := days_bd c (a + k) c1 c2 (by omega) (by omega)
    unfold yearDays at hd
    have e : a + ((k + 1 : Nat) : Int) = a + k + 1 := by omega
    have := ih (by omega)
    rw [e]
    omega
theorem start_le (c a b : Int) (c1 : 1 ≤ c) (c2 : c ≤ 10) (h1 : -20099 ≤ a) (h2 : b ≤ 20899) (h : a ≤ b) : start c a + 353 * (b - a) ≤ start c b := by
  have := start_mono c a (b - a).toNat c1 c2 h1 (by omega)
  have e : a + ((b - a).toNat : Int) = b := by omega
  rw [e] at this
  omega
theorem upTo_mono (c y : Int) (k j : Nat) (h : k ≤ j) : upTo c y k ≤ upTo c y j := by
  induction j with
  | zero => obtain rfl : k = 0 := by omega
            exact Int.le_refl _
  | succ j ih =>
    by_cases e : k = j + 1
    · rw [e]; exact Int.le_refl _
    · have := ih (by omega)
      have hl := length_bd c y (j + 1)
      simp only [upTo]
      omega
/-- A date that there is. -/
def Valid (c y m d : Int) : Prop := -20000 ≤ y ∧ y ≤ 20000 ∧ 1 ≤ m ∧ m ≤ months c y ∧ 1 ≤ d ∧ d ≤ length c y m
theorem upTo_at (c y m : Int) (hm : 1 ≤ m) : upTo c y m.toNat = upTo c y (m - 1).toNat + length c y m := by
  obtain ⟨k, rfl⟩ : ∃ k : Nat, m = k + 1 := ⟨(m - 1).toNat, by omega⟩
  have e1 : ((k : Int) + 1).toNat = k + 1 := by omega
  have e2 : ((k : Int) + 1 - 1).toNat = k := by omega
  rw [e1, e2]
  rfl
theorem in_year (c y m d : Int) (c1 : 1 ≤ c) (c2 : c ≤ 10) (h : Valid c y m d) : start c y ≤ dayOf c y m d - first c ∧ dayOf c y m d - first c < start c (y + 1) := by
  obtain ⟨h1, h2, h3, h4, h5, h6⟩ := h
  have hs := sum_all c y c1 c2 (by omega) (by omega)
  unfold yearDays at hs
  have hb := upTo_bd c y (m - 1).toNat
  have ha := upTo_at c y m h3
  have hm := upTo_mono c y m.toNat (months c y).toNat (by omega)
  unfold dayOf
  omega
/-- ONE DAY, ONE DATE. -/
theorem date_one (c y m d y' m' d' : Int) (c1 : 1 ≤ c) (c2 : c ≤ 10) (h : Valid c y m d) (h' : Valid c y' m' d') (e : dayOf c y m d = dayOf c y' m' d') : y = y' ∧ m = m' ∧ d = d' := by
  have i1 := in_year c y m d c1 c2 h
  have i2 := in_year c y' m' d' c1 c2 h'
  rw [e] at i1
  have hy : y = y' := by
    obtain ⟨a1, a2, _⟩ := h
    obtain ⟨b1, b2, _⟩ := h'
    rcases Int.lt_trichotomy y y' with hl | hl | hl
    · have := start_le c (y + 1) y' c1 c2 (by omega) (by omega) (by omega); omega
    · exact hl
    · have := start_le c (y' + 1) y c1 c2 (by omega) (by omega) (by omega); omega
  subst hy
  obtain ⟨_, _, a3, _, a5, a6⟩ := h
  obtain ⟨_, _, b3, _, b5, b6⟩ := h'
  unfold dayOf at e
  have ua := upTo_at c y m a3
  have ub := upTo_at c y m' b3
  have hm : m = m' := by
    rcases Int.lt_trichotomy m m' with hl | hl | hl
    · have := upTo_mono c y m.toNat (m' - 1).toNat (by omega); omega
    · exact hl
    · have := upTo_mono c y m'.toNat (m - 1).toNat (by omega); omega
  subst hm
  exact ⟨rfl, rfl, by omega⟩
end Dm
