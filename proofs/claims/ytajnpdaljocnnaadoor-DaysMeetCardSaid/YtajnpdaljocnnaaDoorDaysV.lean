/- The law DaysMeet: each day has a date in each calendar, and the next day has the next date. -/
import Derived.Test.YtajnpdaljocnnaaDoorDaysU
import Derived.Test.YtajnpdaljocnnaaDoorDaysR
namespace Dm
theorem length_pos (c y m : Int) (c1 : 1 ≤ c) (c2 : c ≤ 10) (h1 : 1 ≤ m) (h2 : m ≤ months c y) : 1 ≤ length c y m := by
  have hm := months_lo c y
  have hc : c = 1 ∨ c = 2 ∨ c = 3 ∨ c = 4 ∨ c = 5 ∨ c = 6 ∨ c = 7 ∨ c = 8 ∨ c = 9 ∨ c = 10 := by omega
  have h13 : m ≤ 13 := by omega
  have hmm : m = 1 ∨ m = 2 ∨ m = 3 ∨ m = 4 ∨ m = 5 ∨ m = 6 ∨ m = 7 ∨ m = 8 ∨ m = 9 ∨ m = 10 ∨ m = 11 ∨ m = 12 ∨ m = 13 := by omega
  by_cases h7 : c = 1 ∨ c = 2
  · have h12 : m ≤ 12 := by
      have : months c y = 12 := by unfold months; rw [if_pos (by omega)]
      omega
    unfold length roman
    rcases h7 with rfl | rfl <;> rcases hmm with rfl | rfl | rfl | rfl | rfl | rfl | rfl | rfl | rfl | rfl | rfl | rfl | rfl <;> simp <;> (try split) <;> omega
  · unfold length
    repeat' split
    all_goals (first | omega | (simp only []; repeat' split) )
    all_goals omega
end Dm
namespace Go.Proofs.YtajnpdaljocnnaaDoor
open Go.RowKit
theorem next_in {c y m d n : Int} (h : Dm.Valid c y m d) (hd : Dm.dayOf c y m d = n) (hl : d < Dm.length c y m) : Dm.Valid c y m (d + 1) ∧ Dm.dayOf c y m (d + 1) = n + 1 := by
  obtain ⟨y1, y2, m1, m2, d1, d2⟩ := h
  refine ⟨⟨y1, y2, m1, m2, by omega, by omega⟩, ?_⟩
  unfold Dm.dayOf at *; omega
theorem next_month {c y m d n : Int} (c1 : 1 ≤ c) (c2 : c ≤ 10) (h : Dm.Valid c y m d) (hd : Dm.dayOf c y m d = n) (hl : d = Dm.length c y m) (hm : m < Dm.months c y) : Dm.Valid c y (m + 1) 1 ∧ Dm.dayOf c y (m + 1) 1 = n + 1 := by
  obtain ⟨y1, y2, m1, m2, d1, d2⟩ := h
  refine ⟨⟨y1, y2, by omega, by omega, by omega, Dm.length_pos c y (m + 1) c1 c2 (by omega) (by omega)⟩, ?_⟩
  have hu := Dm.upTo_at c y m m1
  unfold Dm.dayOf at *
  rw [show m + 1 - 1 = m by omega]
  omega
theorem next_year {c y m d n : Int} (c1 : 1 ≤ c) (c2 : c ≤ 10) (h : Dm.Valid c y m d) (hd : Dm.dayOf c y m d = n) (hl : d = Dm.length c y m) (hm : m = Dm.months c y) (hy : y < 20000) : Dm.Valid c (y + 1) 1 1 ∧ Dm.dayOf c (y + 1) 1 1 = n + 1 := by
  obtain ⟨y1, y2, m1, m2, d1, d2⟩ := h
  have hmo := Dm.months_lo c (y + 1)
  refine ⟨⟨by omega, by omega, by omega, by omega, by omega, Dm.length_pos c (y + 1) 1 c1 c2 (by omega) (by omega)⟩, ?_⟩
  have hs := Dm.sum_all c y c1 c2 (by omega) (by omega)
  unfold Dm.yearDays at hs
  have hu := Dm.upTo_at c y m m1
  rw [← hm] at hs
  unfold Dm.dayOf at *
  rw [show ((1 : Int) - 1).toNat = 0 from rfl, show Dm.upTo c (y + 1) 0 = 0 from rfl]
  omega
/-- The year of a day lies within the years. -/
theorem year_in {c y m d n : Int} (c1 : 1 ≤ c) (c2 : c ≤ 10) (h : Dm.Valid c y m d) (hd : Dm.dayOf c y m d = n) (h1 : -4000000 ≤ n) (h2 : n ≤ 4000000) : y < 20000 := by
  have hi := Dm.in_year c y m d c1 c2 h
  have hf := Dm.first_bd c
  have l1 := Dm.lin_start c y c1 c2
  unfold Dm.Lin at l1
  omega
set_option maxRecDepth 100000 in
set_option maxHeartbeats 2000000 in
theorem daysMeet_bad (c n : Int) (w : World) (hT : ErrT w) (hr : RomanT w) (h : (c < 1 ∨ 10 < c) ∨ (1 ≤ c ∧ c ≤ 10 ∧ (n < -4000000 ∨ 4000000 < n))) : Calls Tryd.prog 12 #[.int .i64 c, .int .i64 n] w fun e w' => e = .returned (.bool true) ∧ Below w.heap.size w w' := by
  have HT : Hid (ErrT w ∧ RomanT w) := Lib.hid ⟨hT, hr⟩; clear hT hr
  have hE : ofE c n ≠ 0 := by
    rcases h with h | h
    · rw [ofE_cal h]; decide
    · rw [ofE_range h.1 h.2.1 h.2.2]; decide
  obtain ⟨E, hE0⟩ : ∃ E, ofE c n = E := ⟨_, rfl⟩
  rw [hE0] at hE
  have HE := Lib.hid hE0; clear hE0
  have h4 : c < 1 ∨ 10 < c ∨ (1 ≤ c ∧ c ≤ 10 ∧ n < -4000000) ∨ (1 ≤ c ∧ c ≤ 10 ∧ ¬ n < -4000000 ∧ 4000000 < n) := by omega
  clear h
  rcases h4 with h | h | ⟨c1, c2, h⟩ | ⟨c1, c2, h', h⟩
  all_goals
    try have hc' : ¬ c < 1 := by omega
    go_enter Tryd.func12, Tryd.ntmps12
    go_wp2_with fail
    refine (plainOf _ _ _ (by repeat (first | exact HT.out.1 | apply ErrT.alloc)) (by repeat (first | exact HT.out.2 | (with_reducible refine RomanT.alloc ?_ _)))).mono ?_; rintro en w1 ⟨a, y, m, d, rfl, hR, hb1⟩
    rw [HE.out]
    have hR' : a = 0 ∧ y = 0 ∧ m = 0 ∧ d = 0 := by
      rcases hR with ⟨_, h⟩ | ⟨e, _⟩
      · exact h
      · rw [HE.out] at e; exact absurd e hE
    obtain ⟨rfl, rfl, rfl, rfl⟩ := hR'
    clear hR
    unfold dateV
    have hz1 := hb1.size
    have HB1 := Lib.hid hb1; clear hb1
    go_wp2_with fail
    all_goals go_ret
    all_goals exact ⟨retB (by simp_all), (by first | exact HB1.out | exact HB1.out.alloc hz1 _)⟩
set_option maxRecDepth 100000 in
set_option maxHeartbeats 4000000 in
theorem daysMeet_ok (c n : Int) (w : World) (hT : ErrT w) (hr : RomanT w) (c1 : 1 ≤ c) (c2 : c ≤ 10) (n1 : -4000000 ≤ n) (n2 : n ≤ 4000000) : Calls Tryd.prog 12 #[.int .i64 c, .int .i64 n] w fun e w' => e = .returned (.bool true) ∧ Below w.heap.size w w' := by
  have HT : Hid (ErrT w ∧ RomanT w) := Lib.hid ⟨hT, hr⟩; clear hT hr
  have HE := Lib.hid (ofE_ok c1 c2 n1 n2)
  have hc' : ¬ c < 1 := by omega
  go_enter Tryd.func12, Tryd.ntmps12
  go_wp2_with fail
  refine (plainOf _ _ _ HT.out.1 HT.out.2).mono ?_; rintro en w1 ⟨a, y, m, d, rfl, hR, hb1⟩
  rw [HE.out]
  have hv : a = c ∧ Dm.Valid c y m d ∧ Dm.dayOf c y m d = n := by
    rcases hR with ⟨e, _⟩ | ⟨_, ha, _, _, hv, hd⟩
    · exact absurd HE.out e
    · exact ⟨ha, hv, hd⟩
  clear hR
  obtain ⟨rfl, hv, hdn⟩ := hv
  have hy := year_in c1 c2 hv hdn n1 n2
  have HD := Lib.hid (dayE_back c1 c2 hv hdn n1 n2)
  have HV := Lib.hid (And.intro hv hdn)
  obtain ⟨y1, y2, m1, m2, d1, d2⟩ := hv
  clear hdn
  unfold dateV
  have hz1 := hb1.size
  have HT1 : Hid (ErrT w1 ∧ RomanT w1) := Lib.hid ⟨HT.out.1.call hb1, HT.out.2.call hb1⟩
  have HB1 := Lib.hid hb1; clear hb1
  go_wp2_with fail
  refine (plainDay _ _ _ _ _ (HT1.out.1.alloc _) (HT1.out.2.alloc _)).mono ?_; rintro en w2 ⟨rfl, hb2⟩
  rw [HD.out.1, HD.out.2]
  have hz2 := hb2.size
  simp only [World.size_alloc] at hz2
  obtain ⟨q2, p2⟩ := carry hb2 w1.heap.size (by simp)
  have hs2 : w1.heap.size < w2.heap.size := by omega
  have HT2 : Hid (ErrT w2 ∧ RomanT w2) := Lib.hid ⟨(HT1.out.1.alloc _).call hb2, (HT1.out.2.alloc _).call hb2⟩
  have HB2 := Lib.hid (thenB HB1.out (offA hb2)); clear hb2
  go_wp2_with fail
  have hwb := Dm.wd_bd n
  obtain ⟨W, hW0⟩ : ∃ W, Dm.wd n = W := ⟨_, rfl⟩
  have hwn := Dm.wd_next n
  rw [hW0] at hwb hwn
  have HW := Lib.hid (And.intro hW0 hwn); clear hW0 hwn
  refine (plainWeekday _ _ (InI.mk (by omega) (by omega))).mono ?_; rintro e w' ⟨rfl, rfl⟩
  rw [HW.out.1]
  go_wp2_with fail
  refine (plainWeekday _ _ (InI.mk (by omega) (by omega))).mono ?_; rintro e w' ⟨rfl, rfl⟩
  rw [HW.out.2]
  by_cases hmx : n = 4000000
  · subst hmx
    go_wp2_with fail
    all_goals go_ret
    all_goals exact ⟨retB (by simp_all), HB2.out⟩
  · have HE1 := Lib.hid (ofE_ok (c := a) (n := n + 1) c1 c2 (by omega) (by omega))
    have hL : lenE a y m = 0 := lenE_valid c1 c2 HV.out.1
    have hLR : lenR a y m = Dm.length a y m := by unfold lenR; rw [hL, if_pos rfl]
    have hM : yearE a y = 0 := yearE_ok c1 c2 y1 y2
    have hMR : monthsR a y = Dm.months a y := by unfold monthsR; rw [hM, if_pos rfl]
    have HL := Lib.hid (And.intro hL (And.intro hLR (And.intro hM hMR))); clear hL hLR hM hMR
    have b4 := Dm.months_lo a y
    have b5 := Dm.length_bd a y m
    have hcase : ∃ yy mm dd, (d < Dm.length a y m ∧ yy = y ∧ mm = m ∧ dd = d + 1 ∨ ¬ d < Dm.length a y m ∧ m < Dm.months a y ∧ yy = y ∧ mm = m + 1 ∧ dd = 1 ∨ ¬ d < Dm.length a y m ∧ ¬ m < Dm.months a y ∧ yy = y + 1 ∧ mm = 1 ∧ dd = 1) ∧ Dm.Valid a yy mm dd ∧ Dm.dayOf a yy mm dd = n + 1 := by
      by_cases g1 : d < Dm.length a y m
      · exact ⟨y, m, d + 1, .inl ⟨g1, rfl, rfl, rfl⟩, next_in HV.out.1 HV.out.2 g1⟩
      · by_cases g2 : m < Dm.months a y
        · exact ⟨y, m + 1, 1, .inr (.inl ⟨g1, g2, rfl, rfl, rfl⟩), next_month c1 c2 HV.out.1 HV.out.2 (by omega) g2⟩
        · exact ⟨y + 1, 1, 1, .inr (.inr ⟨g1, g2, rfl, rfl, rfl⟩), next_year c1 c2 HV.out.1 HV.out.2 (by omega) (by omega) hy⟩
    obtain ⟨yy, mm, dd, hcase, hN⟩ := hcase
    have HN := Lib.hid hN; clear hN
    obtain ⟨L, hL0⟩ : ∃ L, Dm.length a y m = L := ⟨_, rfl⟩
    obtain ⟨M, hM0⟩ : ∃ M, Dm.months a y = M := ⟨_, rfl⟩
    rw [hL0] at b5 d2 hcase
    rw [hM0] at b4 m2 hcase
    have HLM := Lib.hid (And.intro hL0 hM0); clear hL0 hM0
    have hn3 : n < 4000000 := by omega
    clear hmx
    have HC := Lib.hid hcase; clear hcase
    go_wp2_with fail
    refine (plainOf _ _ _ HT2.out.1 HT2.out.2).mono ?_; rintro en w3 ⟨a', y', m', d', rfl, hR3, hb3⟩
    rw [HE1.out]
    have h3 : a' = a ∧ y' = yy ∧ m' = mm ∧ d' = dd := hR3.one (.inr ⟨HE1.out, rfl, c1, c2, HN.out.1, HN.out.2⟩)
    obtain ⟨rfl, rfl, rfl, rfl⟩ := h3
    clear hR3
    unfold dateV
    have hz3 := hb3.size
    obtain ⟨q3, p3⟩ := carry hb3 w1.heap.size hs2
    have hs3 : w1.heap.size < w3.heap.size := by omega
    have HT3 : Hid (ErrT w3 ∧ RomanT w3) := Lib.hid ⟨HT2.out.1.call hb3, HT2.out.2.call hb3⟩
    have HB3 := Lib.hid (thenB HB2.out hb3); clear hb3
    go_wp2_with fail
    refine (plainLength _ _ _ _ (HT3.out.1.alloc _) (HT3.out.2.alloc _)).mono ?_; rintro en w4 ⟨rfl, hb4⟩
    rw [HL.out.1, HL.out.2.1, HLM.out.1]
    have hz4 := hb4.size
    simp only [World.size_alloc] at hz4
    obtain ⟨q4, p4⟩ := carry hb4 w1.heap.size (by simp; omega)
    obtain ⟨q4', p4'⟩ := carry hb4 w3.heap.size (by simp)
    have hs4 : w1.heap.size < w4.heap.size := by omega
    have hs4' : w3.heap.size < w4.heap.size := by omega
    have HT4 : Hid (ErrT w4 ∧ RomanT w4) := Lib.hid ⟨(HT3.out.1.alloc _).call hb4, (HT3.out.2.alloc _).call hb4⟩
    have HB4 := Lib.hid (thenB HB3.out (offA hb4)); clear hb4
    go_wp2_with fail
    refine (plainMonths _ _ _ HT4.out.1 HT4.out.2).mono ?_; rintro en w5 ⟨rfl, hb5⟩
    rw [HL.out.2.2.1, HL.out.2.2.2, HLM.out.2]
    have hz5 := hb5.size
    obtain ⟨q5, p5⟩ := carry hb5 w1.heap.size hs4
    obtain ⟨q5', p5'⟩ := carry hb5 w3.heap.size hs4'
    have hs5 : w1.heap.size < w5.heap.size := by omega
    have hs5' : w3.heap.size < w5.heap.size := by omega
    have HB5 := Lib.hid (thenB HB4.out hb5); clear hb5
    rcases HC.out with ⟨g1, rfl, rfl, rfl⟩ | ⟨g1, g2, rfl, rfl, rfl⟩ | ⟨g1, g2, rfl, rfl, rfl⟩
    · go_wp2_with fail
      all_goals go_ret
      all_goals
        refine ⟨retB (by simp), ?_⟩
        repeat (first | with_reducible exact HB5.out | (with_reducible refine Below.alloc ?_ (by first | omega | (simp <;> omega)) _) | (with_reducible refine Below.setCell ?_ (by first | omega | (simp <;> omega)) _))
    · have hdL : d = L := by omega
      subst hdL
      go_wp2_with fail
      all_goals go_ret
      all_goals
        refine ⟨retB (by simp), ?_⟩
        repeat (first | with_reducible exact HB5.out | (with_reducible refine Below.alloc ?_ (by first | omega | (simp <;> omega)) _) | (with_reducible refine Below.setCell ?_ (by first | omega | (simp <;> omega)) _))
    · have hdL : d = L := by omega
      subst hdL
      have hmM : m = M := by omega
      subst hmM
      go_wp2_with fail
      all_goals go_ret
      all_goals
        refine ⟨retB (by simp), ?_⟩
        repeat (first | with_reducible exact HB5.out | (with_reducible refine Below.alloc ?_ (by first | omega | (simp <;> omega)) _) | (with_reducible refine Below.setCell ?_ (by first | omega | (simp <;> omega)) _))
theorem daysMeet_walk (c n : Int) (w : World) (hT : ErrT w) (hr : RomanT w) : Calls Tryd.prog 12 #[.int .i64 c, .int .i64 n] w fun e w' => e = .returned (.bool true) ∧ Below w.heap.size w w' := by
  rcases of_ways c n with h | h | ⟨c1, c2, h1, h2⟩
  · exact daysMeet_bad c n w hT hr (.inl h)
  · exact daysMeet_bad c n w hT hr (.inr h)
  · exact daysMeet_ok c n w hT hr c1 c2 h1 h2
end Go.Proofs.YtajnpdaljocnnaaDoor
