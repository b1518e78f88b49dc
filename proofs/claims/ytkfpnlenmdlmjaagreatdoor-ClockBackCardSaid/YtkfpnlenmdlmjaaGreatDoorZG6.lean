/- The date of a day: the program's from outside. Plain mathematics of weeks: weekdays, and on which day the first week of a year begins. Weekdays and weeks: the program's, from outside. -/
import Derived.Test.YtkfpnlenmdlmjaaGreatDoorZDaysN
import Derived.Test.YtkfpnlenmdlmjaaGreatDoorZG5
namespace Go.Proofs.YtkfpnlenmdlmjaaGreatDoor
open Go.RowKit
/-- A day's date: four numbers. -/
def OfR (c n a y m d : Int) : Prop := (ofE c n ≠ 0 ∧ a = 0 ∧ y = 0 ∧ m = 0 ∧ d = 0) ∨ (ofE c n = 0 ∧ a = c ∧ 1 ≤ c ∧ c ≤ 10 ∧ Dm.Valid c y m d ∧ Dm.dayOf c y m d = n)
theorem OfR.one {c n a y m d a' y' m' d' : Int} (h : OfR c n a y m d) (h' : OfR c n a' y' m' d') : a = a' ∧ y = y' ∧ m = m' ∧ d = d' := by
  rcases h with ⟨e, rfl, rfl, rfl, rfl⟩ | ⟨e, rfl, c1, c2, hv, hd⟩ <;> rcases h' with ⟨e', rfl, rfl, rfl, rfl⟩ | ⟨e', rfl, c1', c2', hv', hd'⟩
  · exact ⟨rfl, rfl, rfl, rfl⟩
  · exact absurd e' e
  · exact absurd e e'
  · have := Dm.date_one _ _ _ _ _ _ _ c1 c2 hv hv' (hd.trans hd'.symm)
    exact ⟨rfl, this.1, this.2.1, this.2.2⟩
theorem ofE_cal {c n : Int} (h : c < 1 ∨ 10 < c) : ofE c n = 2 := if_pos h
theorem ofE_range {c n : Int} (h1 : 1 ≤ c) (h2 : c ≤ 10) (h : n < -4000000 ∨ 4000000 < n) : ofE c n = 4 := (if_neg (by omega)).trans (if_pos h)
theorem ofE_ok {c n : Int} (h1 : 1 ≤ c) (h2 : c ≤ 10) (h3 : -4000000 ≤ n) (h4 : n ≤ 4000000) : ofE c n = 0 := (if_neg (by omega)).trans (if_neg (by omega))
theorem of_ways (c n : Int) : (c < 1 ∨ 10 < c) ∨ (1 ≤ c ∧ c ≤ 10 ∧ (n < -4000000 ∨ 4000000 < n)) ∨ (1 ≤ c ∧ c ≤ 10 ∧ -4000000 ≤ n ∧ n ≤ 4000000) := by omega
/-- What days.Of, and plain.DaysOf and the document's Of, answer: a date and an error. -/
def OfPost2 (c n : Int) (err : Value) (w : World) (e : Ending) (w' : World) : Prop :=
  ∃ a y m d, e = .returned (.tuple #[dateV a y m d, err]) ∧ OfR c n a y m d ∧ Below w.heap.size w w'
set_option maxHeartbeats 2000000 in
theorem dof_cal (c n : Int) (w : World) (hc : c < 1 ∨ 10 < c) : Calls Tryz.prog 93 #[.int .i64 c, .int .i64 n] w fun e w' => e = .returned (.tuple #[dateV 0 0 0 0, errV 2]) ∧ Below w.heap.size w w' := by
  go_enter Tryz.func93, Tryz.ntmps93
  go_wp2_with fail
  refine (find_cal _ _ _ hc).mono ?_; rintro e w1 ⟨rfl, hb1⟩
  have hz1 := hb1.size
  simp only [World.size_alloc] at hz1
  obtain ⟨q1, p1⟩ := carry hb1 w.heap.size (by simp)
  have hs1 : w.heap.size < w1.heap.size := by omega
  have HB1 := Lib.hid (offA hb1); clear hb1
  go_wp2_with fail
  refine bodyPost_ret (v := .tuple #[dateV 0 0 0 0, errV 2]) (by simp [results, Tryz.results93, go_sem, q1, hs1, dateV, errV]) rfl ⟨rfl, ?_⟩
  repeat (first | with_reducible exact HB1.out | (with_reducible refine Below.alloc ?_ (by first | omega | (simp <;> omega)) _) | (with_reducible refine Below.setCell ?_ (by first | omega | (simp <;> omega)) _))
set_option maxHeartbeats 2000000 in
theorem dof_range (c n : Int) (w : World) (hr : RomanT w) (c1 : 1 ≤ c) (c2 : c ≤ 10) (h : n < -4000000 ∨ 4000000 < n) : Calls Tryz.prog 93 #[.int .i64 c, .int .i64 n] w fun e w' => e = .returned (.tuple #[dateV 0 0 0 0, errV 4]) ∧ Below w.heap.size w w' := by
  have HR := Lib.hid hr; clear hr
  rcases h with h | h
  all_goals
    try have h' : ¬ n < -4000000 := by omega
    go_enter Tryz.func93, Tryz.ntmps93
    go_wp2_with fail
    refine (find_ok _ _ _ (by repeat (first | exact HR.out | (with_reducible refine RomanT.alloc ?_ _))) c1 c2 (by omega) (by omega)).mono ?_; rintro e w1 ⟨sf, lf, mf, gf, mc, gc, mB, gB, rfl, hS, hmB, hgB, hb1⟩
    unfold schV
    clear hS hmB hgB
    have hz1 := hb1.size
    simp only [World.size_alloc] at hz1
    obtain ⟨q1, p1⟩ := carry hb1 w.heap.size (by simp)
    have hs1 : w.heap.size < w1.heap.size := by omega
    have HB1 := Lib.hid (offA hb1); clear hb1
    go_wp2_with fail
    refine bodyPost_ret (v := .tuple #[dateV 0 0 0 0, errV 4]) (by simp [results, Tryz.results93, go_sem, q1, hs1, dateV, errV]) rfl ⟨rfl, ?_⟩
    repeat (first | with_reducible exact HB1.out | (with_reducible refine Below.alloc ?_ (by first | omega | (simp <;> omega)) _) | (with_reducible refine Below.setCell ?_ (by first | omega | (simp <;> omega)) _))
theorem dof_all (c n : Int) (w : World) (hr : RomanT w) : Calls Tryz.prog 93 #[.int .i64 c, .int .i64 n] w (OfPost2 c n (errV (ofE c n)) w) := by
  rcases of_ways c n with h | ⟨c1, c2, h⟩ | ⟨c1, c2, h1, h2⟩
  · rw [ofE_cal h]; exact (dof_cal c n w h).mono fun e w' ⟨he, hb⟩ => ⟨0, 0, 0, 0, he, .inl ⟨by rw [ofE_cal h]; decide, rfl, rfl, rfl, rfl⟩, hb⟩
  · rw [ofE_range c1 c2 h]; exact (dof_range c n w hr c1 c2 h).mono fun e w' ⟨he, hb⟩ => ⟨0, 0, 0, 0, he, .inl ⟨by rw [ofE_range c1 c2 h]; decide, rfl, rfl, rfl, rfl⟩, hb⟩
  · rw [ofE_ok c1 c2 h1 h2]; exact (dof_ok c n w hr c1 c2 h1 h2).mono fun e w' ⟨y, m, d, he, hv, hd, hb⟩ => ⟨c, y, m, d, he, .inr ⟨ofE_ok c1 c2 h1 h2, rfl, c1, c2, hv, hd⟩, hb⟩
end Go.Proofs.YtkfpnlenmdlmjaaGreatDoor
namespace Dm
/-- The weekday of a day: 1 to 7. -/
def wd (d : Int) : Int := (d + 3) % 7 + 1
theorem wd_bd (d : Int) : 1 ≤ wd d ∧ wd d ≤ 7 := by unfold wd; omega
/-- On which day the first week of a year begins. -/
def w1 (y : Int) : Int := start 1 y - 719162 + 3 - (wd (start 1 y - 719162 + 3) - 1)
theorem w1_near (y : Int) : start 1 y - 719162 - 3 ≤ w1 y ∧ w1 y ≤ start 1 y - 719162 + 3 := by
  have := wd_bd (start 1 y - 719162 + 3)
  unfold w1; omega
theorem w1_bd (y : Int) (h1 : -25000 ≤ y) (h2 : y ≤ 25000) : -13000000 ≤ w1 y ∧ w1 y ≤ 13000000 := by
  have := w1_near y
  have := start_bd 1 y (by omega) (by omega) h1 h2
  omega
theorem w1_mod (y : Int) : w1 y % 7 = 4 := by unfold w1 wd; omega
theorem year1 (y : Int) : start 1 (y + 1) = start 1 y + 365 ∨ start 1 (y + 1) = start 1 y + 366 := by
  have h := gLeap_days y
  have e1 : start 1 (y + 1) = gStart (y + 1) := rfl
  have e2 : start 1 y = gStart y := rfl
  rw [e1, e2]
  split at h <;> omega
/-- 52 weeks, or 53. -/
theorem weeks_two (y : Int) : w1 (y + 1) = w1 y + 364 ∨ w1 (y + 1) = w1 y + 371 := by
  have a1 := w1_near y
  have a2 := w1_near (y + 1)
  have m1 := w1_mod y
  have m2 := w1_mod (y + 1)
  have h := year1 y
  omega
theorem w1_mono (a : Int) (k : Nat) : w1 a + 364 * k ≤ w1 (a + k) := by
  induction k with
  | zero => simp
  | succ k ih =>
    have := weeks_two (a + k)
    have e : a + ((k + 1 : Nat) : Int) = a + k + 1 := by omega
    rw [e]; omega
theorem w1_le (a b : Int) (h : a ≤ b) : w1 a + 364 * (b - a) ≤ w1 b := by
  have := w1_mono a (b - a).toNat
  have e : a + ((b - a).toNat : Int) = b := by omega
  rw [e] at this
  omega
theorem w1_one {a b n : Int} (h1 : w1 a ≤ n) (h2 : n < w1 (a + 1)) (h3 : w1 b ≤ n) (h4 : n < w1 (b + 1)) : a = b := by
  rcases Int.lt_trichotomy a b with h | h | h
  · have := w1_le (a + 1) b (by omega); omega
  · exact h
  · have := w1_le (b + 1) a (by omega); omega
end Dm
namespace Go.Proofs.YtkfpnlenmdlmjaaGreatDoor
open Go.RowKit
set_option maxHeartbeats 400000 in
theorem weekday_any (n : Int) (w : World) (hn : InI n) : Calls Tryz.prog 130 #[.int .i64 n] w fun e w' => e = .returned (.int .i64 (Dm.wd n)) ∧ w = w' := by
  have HI := Lib.hid hn; clear hn
  go_enter Tryz.func130, Tryz.ntmps130
  go_wp2_with fail
  refine (mod_any _ _ _ HI.out (by omega) (by omega)).mono ?_; rintro e w' ⟨rfl, rfl⟩
  go_wp2_with fail
  refine (mod_any _ _ _ (InI.mk (by omega) (by omega)) (by omega) (by omega)).mono ?_; rintro e w' ⟨rfl, rfl⟩
  go_wp2_with fail
  go_ret
  exact ⟨rfl, rfl⟩
set_option maxHeartbeats 400000 in
theorem weekOne_any (y : Int) (w : World) (h1 : -25000 ≤ y) (h2 : y ≤ 25000) : Calls Tryz.prog 108 #[.int .i64 y] w fun e w' => e = .returned (.int .i64 (Dm.w1 y)) ∧ w = w' := by
  have b1 := Dm.start_bd 1 y (by omega) (by omega) h1 h2
  have b2 := Dm.wd_bd (Dm.start 1 y - 719162 + 3)
  go_enter Tryz.func108, Tryz.ntmps108
  go_wp2_with fail
  refine (gregorianStart_any _ _ (by omega) (by omega)).mono ?_; rintro e w' ⟨rfl, rfl⟩
  go_wp2_with fail
  refine (weekday_any _ _ (InI.mk (by omega) (by omega))).mono ?_; rintro e w' ⟨rfl, rfl⟩
  go_wp2_with fail
  go_ret
  exact ⟨rfl, rfl⟩
/-- The year, the week and the weekday of a day. -/
def WkR (n y k d : Int) : Prop := (ofE 1 n ≠ 0 ∧ y = 0 ∧ k = 0 ∧ d = 0) ∨ (ofE 1 n = 0 ∧ -18000 ≤ y ∧ y ≤ 18000 ∧ Dm.w1 y ≤ n ∧ n < Dm.w1 (y + 1) ∧ k = (n - Dm.w1 y) / 7 + 1 ∧ d = Dm.wd n)
theorem WkR.one {n y k d y' k' d' : Int} (h : WkR n y k d) (h' : WkR n y' k' d') : y = y' ∧ k = k' ∧ d = d' := by
  rcases h with ⟨e, rfl, rfl, rfl⟩ | ⟨e, _, _, h1, h2, rfl, rfl⟩ <;> rcases h' with ⟨e', rfl, rfl, rfl⟩ | ⟨e', _, _, h1', h2', rfl, rfl⟩
  · exact ⟨rfl, rfl, rfl⟩
  · exact absurd e' e
  · exact absurd e e'
  · obtain rfl := Dm.w1_one h1 h2 h1' h2'
    exact ⟨rfl, rfl, rfl⟩
def weeksR (y : Int) : Int := if yearE 1 y = 0 then (Dm.w1 (y + 1) - Dm.w1 y) / 7 else 0
theorem yearE1_in {y : Int} (h1 : -20000 ≤ y) (h2 : y ≤ 20000) : yearE 1 y = 0 := yearE_ok (by omega) (by omega) h1 h2
theorem yearE1_out {y : Int} (h : y < -20000 ∨ 20000 < y) : yearE 1 y = 4 := yearE_range (by omega) (by omega) h
theorem weeksR_in {y : Int} (h1 : -20000 ≤ y) (h2 : y ≤ 20000) : weeksR y = (Dm.w1 (y + 1) - Dm.w1 y) / 7 := if_pos (yearE1_in h1 h2)
theorem weeksR_out {y : Int} (h : y < -20000 ∨ 20000 < y) : weeksR y = 0 := if_neg (by rw [yearE1_out h]; decide)
set_option maxHeartbeats 1000000 in
theorem weeks_all (y : Int) (w : World) : Calls Tryz.prog 107 #[.int .i64 y] w fun e w' => e = .returned (.tuple #[.int .i64 (weeksR y), errV (yearE 1 y)]) ∧ w = w' := by
  rcases (show y < -20000 ∨ 20000 < y ∨ (-20000 ≤ y ∧ y ≤ 20000) by omega) with h | h | ⟨h1, h2⟩
  · rw [yearE1_out (.inl h), weeksR_out (.inl h)]
    go_enter Tryz.func107, Tryz.ntmps107
    go_wp2_with fail
    go_ret2
    exact ⟨rfl, rfl⟩
  · rw [yearE1_out (.inr h), weeksR_out (.inr h)]
    have h' : ¬ y < -20000 := by omega
    go_enter Tryz.func107, Tryz.ntmps107
    go_wp2_with fail
    go_ret2
    exact ⟨rfl, rfl⟩
  · rw [yearE1_in h1 h2, weeksR_in h1 h2]
    have B1 := Dm.w1_bd y (by omega) (by omega)
    have B2 := Dm.w1_bd (y + 1) (by omega) (by omega)
    have B3 := Dm.weeks_two y
    have B4 : 0 ≤ Dm.w1 (y + 1) - Dm.w1 y := by omega
    clear B3
    go_enter Tryz.func107, Tryz.ntmps107
    go_wp2_with fail
    refine (weekOne_any _ _ (by omega) (by omega)).mono ?_; rintro e w' ⟨rfl, rfl⟩
    go_wp2_with fail
    refine (weekOne_any _ _ (by omega) (by omega)).mono ?_; rintro e w' ⟨rfl, rfl⟩
    go_wp2_with fail
    go_ret2
    exact ⟨rfl, rfl⟩
/-- What is wrong with a week's weekday, but for the range. -/
def owD (y k d : Int) : Prop := k < 1 ∨ weeksR y < k ∨ d < 1 ∨ 7 < d
def owN (y k d : Int) : Int := Dm.w1 y + 7 * (k - 1) + d - 1
def OwR (y k d r e : Int) : Prop := (yearE 1 y ≠ 0 ∧ r = 0 ∧ e = yearE 1 y) ∨ (yearE 1 y = 0 ∧ owD y k d ∧ r = 0 ∧ e = 3) ∨ (yearE 1 y = 0 ∧ ¬ owD y k d ∧ r = rangeR (owN y k d) ∧ e = rangeE (owN y k d))
theorem OwR.one {y k d r e r' e' : Int} (h : OwR y k d r e) (h' : OwR y k d r' e') : r = r' ∧ e = e' := by
  unfold OwR at h h'
  rcases h with ⟨a, rfl, rfl⟩ | ⟨a, b, rfl, rfl⟩ | ⟨a, b, rfl, rfl⟩ <;> rcases h' with ⟨a', rfl, rfl⟩ | ⟨a', b', rfl, rfl⟩ | ⟨a', b', rfl, rfl⟩ <;> first | exact ⟨rfl, rfl⟩ | exact absurd a' a | exact absurd a a' | exact absurd b b' | exact absurd b' b
set_option maxHeartbeats 2000000 in
theorem ofWeek_all (y k d : Int) (w : World) : Calls Tryz.prog 79 #[.int .i64 y, .int .i64 k, .int .i64 d] w fun e w' => ∃ r x, e = .returned (.tuple #[.int .i64 r, errV x]) ∧ OwR y k d r x ∧ w = w' := by
  rcases (show (y < -20000 ∨ 20000 < y) ∨ (-20000 ≤ y ∧ y ≤ 20000) by omega) with h | ⟨h1, h2⟩
  · have hE := yearE1_out h
    have HE := Lib.hid (And.intro hE (weeksR_out h)); clear hE h
    go_enter Tryz.func79, Tryz.ntmps79
    go_wp2_with fail
    refine (weeks_all _ _).mono ?_; rintro e w' ⟨rfl, rfl⟩
    rw [HE.out.1, HE.out.2, errV_hit (show (4 : Int) ≠ 0 by decide)]
    go_wp2_with fail
    go_ret2
    exact ⟨0, 4, rfl, .inl ⟨by rw [HE.out.1]; decide, rfl, HE.out.1.symm⟩, rfl⟩
  · have HE := Lib.hid (yearE1_in h1 h2)
    have B1 := Dm.w1_bd y (by omega) (by omega)
    have B3 := Dm.weeks_two y
    have hw := weeksR_in h1 h2
    have hw2 : 52 ≤ weeksR y ∧ weeksR y ≤ 53 := by omega
    clear B3 hw
    obtain ⟨K, hK0⟩ : ∃ K, weeksR y = K := ⟨_, rfl⟩
    rw [hK0] at hw2
    have HK := Lib.hid hK0; clear hK0
    rcases (show k < 1 ∨ (1 ≤ k ∧ K < k) ∨ (1 ≤ k ∧ k ≤ K ∧ d < 1) ∨ (1 ≤ k ∧ k ≤ K ∧ 1 ≤ d ∧ 7 < d) ∨ (1 ≤ k ∧ k ≤ K ∧ 1 ≤ d ∧ d ≤ 7) by omega) with g | ⟨g1, g⟩ | ⟨g1, g2, g⟩ | ⟨g1, g2, g3, g⟩ | ⟨g1, g2, g3, g4⟩
    iterate 4
      · go_enter Tryz.func79, Tryz.ntmps79
        go_wp2_with fail
        refine (weeks_all _ _).mono ?_; rintro e w' ⟨rfl, rfl⟩
        rw [HE.out, errV_nil, HK.out]
        go_wp2_with fail
        go_ret2
        exact ⟨0, 3, rfl, .inr (.inl ⟨HE.out, by unfold owD; rw [HK.out]; omega, rfl, rfl⟩), rfl⟩
    · have hno : ¬ owD y k d := by unfold owD; rw [HK.out]; omega
      have HO := Lib.hid hno; clear hno
      rcases (show Dm.w1 y + 7 * (k - 1) + d - 1 < -4000000 ∨ 4000000 < Dm.w1 y + 7 * (k - 1) + d - 1 ∨ (-4000000 ≤ Dm.w1 y + 7 * (k - 1) + d - 1 ∧ Dm.w1 y + 7 * (k - 1) + d - 1 ≤ 4000000) by omega) with g | g | ⟨g5, g6⟩
      · go_enter Tryz.func79, Tryz.ntmps79
        go_wp2_with fail
        refine (weeks_all _ _).mono ?_; rintro e w' ⟨rfl, rfl⟩
        rw [HE.out, errV_nil, HK.out]
        go_wp2_with fail
        refine (weekOne_any _ _ (by omega) (by omega)).mono ?_; rintro e w' ⟨rfl, rfl⟩
        go_wp2_with fail
        go_ret2
        exact ⟨0, 4, rfl, .inr (.inr ⟨HE.out, HO.out, (range_out (.inl g)).1.symm, (range_out (.inl g)).2.symm⟩), rfl⟩
      · have g' : ¬ Dm.w1 y + 7 * (k - 1) + d - 1 < -4000000 := by omega
        go_enter Tryz.func79, Tryz.ntmps79
        go_wp2_with fail
        refine (weeks_all _ _).mono ?_; rintro e w' ⟨rfl, rfl⟩
        rw [HE.out, errV_nil, HK.out]
        go_wp2_with fail
        refine (weekOne_any _ _ (by omega) (by omega)).mono ?_; rintro e w' ⟨rfl, rfl⟩
        go_wp2_with fail
        go_ret2
        exact ⟨0, 4, rfl, .inr (.inr ⟨HE.out, HO.out, (range_out (.inr g)).1.symm, (range_out (.inr g)).2.symm⟩), rfl⟩
      · go_enter Tryz.func79, Tryz.ntmps79
        go_wp2_with fail
        refine (weeks_all _ _).mono ?_; rintro e w' ⟨rfl, rfl⟩
        rw [HE.out, errV_nil, HK.out]
        go_wp2_with fail
        refine (weekOne_any _ _ (by omega) (by omega)).mono ?_; rintro e w' ⟨rfl, rfl⟩
        go_wp2_with fail
        go_ret2
        exact ⟨_, 0, rfl, .inr (.inr ⟨HE.out, HO.out, (range_in g5 g6).1.symm, (range_in g5 g6).2.symm⟩), rfl⟩
end Go.Proofs.YtkfpnlenmdlmjaaGreatDoor
