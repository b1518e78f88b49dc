/- Plain mathematics of weeks: weekdays, and on which day the first week of a year begins. -/
import Derived.Test.YtbgcccfgcdkmdaaGreatDoorDaysMathC
namespace Dm
/-- The weekday of a day: 1 to 7. -/
def wd (d : Int) : Int := (d + 3) % 7 + 1
theorem wd_bd (d : Int) : 1 ≤ wd d ∧ wd d ≤ 7 := by unfold wd; omega
theorem wd_next (d : Int) : wd (d + 1) = wd d % 7 + 1 := by unfold wd; omega
theorem wd_week (d : Int) : wd (d + 7) = wd d := by unfold wd; omega
/-- On which day the first week of a year begins. -/
def w1 (y : Int) : Int := start 1 y - 719162 + 3 - (wd (start 1 y - 719162 + 3) - 1)
theorem w1_near (y : Int) : start 1 y - 719162 - 3 ≤ w1 y ∧ w1 y ≤ start 1 y - 719162 + 3 := by
  have := wd_bd (start 1 y - 719162 + 3)
  unfold w1; omega
theorem w1_bd (y : Int) (h1 : -25000 ≤ y) (h2 : y ≤ 25000) : -13000000 ≤ w1 y ∧ w1 y ≤ 13000000 := by
  have := w1_near y
  have := start_bd 1 y (by omega) (by omega) h1 h2
  omega
theorem w1_mod (y : Int) : w1 y % 7 = 4 := by unfold w1 wd; omega
theorem year1 (y : Int) : start 1 (y + 1) = start 1 y + 365 ∨ start 1 (y + 1) = start 1 y + 366 := by
  have h := gLeap_days y
  have e1 : start 1 (y + 1) = gStart (y + 1) := rfl
  have e2 : start 1 y = gStart y := rfl
  rw [e1, e2]
  split at h <;> omega
/-- 52 weeks, or 53. -/
theorem weeks_two (y : Int) : w1 (y + 1) = w1 y + 364 ∨ w1 (y + 1) = w1 y + 371 := by
  have a1 := w1_near y
  have a2 := w1_near (y + 1)
  have m1 := w1_mod y
  have m2 := w1_mod (y + 1)
  have h := year1 y
  omega
theorem w1_mono (a : Int) (k : Nat) : w1 a + 364 * k ≤ w1 (a + k) := by
  induction k with
  | zero => simp
  | succ k ih =>
    have := weeks_two (a + k)
    have e : a + ((k + 1 : Nat) : Int) = a + k + 1 := by omega
    rw [e]; omega
theorem w1_le (a b : Int) (h : a ≤ b) : w1 a + 364 * (b - a) ≤ w1 b := by
  have := w1_mono a (b - a).toNat
  have e : a + ((b - a).toNat : Int) = b := by omega
  rw [e] at this
  omega
theorem w1_one {a b n : Int} (h1 : w1 a ≤ n) (h2 : n < w1 (a + 1)) (h3 : w1 b ≤ n) (h4 : n < w1 (b + 1)) : a = b := by
  rcases Int.lt_trichotomy a b with h | h | h
  · have := w1_le (a + 1) b (by omega); omega
  · exact h
  · have := w1_le (b + 1) a (by omega); omega
/-- The year by weeks is the year, the one before it, or the one behind it. -/
theorem w1_year (y n : Int) (h1 : start 1 y ≤ n + 719162) (h2 : n + 719162 < start 1 (y + 1)) : w1 (y - 1) ≤ n ∧ n < w1 (y + 1 + 1) := by
  have a1 := w1_near (y - 1)
  have a2 := w1_near (y + 1 + 1)
  have b1 := year1 (y - 1)
  have b2 := year1 (y + 1)
  rw [show y - 1 + 1 = y by omega] at b1
  omega
theorem wd_of_w1 (y n : Int) : w1 y + 7 * ((n - w1 y) / 7) + wd n - 1 = n := by
  have := w1_mod y
  unfold wd
  generalize w1 y = a at *
  omega
end Dm
