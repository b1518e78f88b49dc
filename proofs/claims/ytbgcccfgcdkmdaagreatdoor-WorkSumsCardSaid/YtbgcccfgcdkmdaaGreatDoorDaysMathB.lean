/- Plain mathematics of ten calendars, second part: years from year 1 on, and bounds. -/
import Derived.Test.YtbgcccfgcdkmdaaGreatDoorDaysMath
namespace Dm
/-- So many years that always have as many days. -/
def roundN (c : Int) : Int := if c = 1 ∨ c = 8 then 400 else if c = 9 then 4000 else if c = 2 ∨ c = 3 ∨ c = 4 then 4 else if c = 5 then 30 else if c = 6 then 2820 else if c = 10 then 1 else 0
def roundD (c : Int) : Int := if c = 1 ∨ c = 8 then 146097 else if c = 9 then 1460969 else if c = 2 ∨ c = 3 ∨ c = 4 then 1461 else if c = 5 then 10631 else if c = 6 then 1029983 else if c = 10 then 365 else 0
theorem start_round (c j k : Int) (h1 : 1 ≤ c) (h2 : c ≤ 10) (h7 : c ≠ 7) : start c (j + k * roundN c) = start c j + k * roundD c := by
  have hc : c = 1 ∨ c = 2 ∨ c = 3 ∨ c = 4 ∨ c = 5 ∨ c = 6 ∨ c = 8 ∨ c = 9 ∨ c = 10 := by omega
  rcases hc with rfl | rfl | rfl | rfl | rfl | rfl | rfl | rfl | rfl
  · simp [start, gStart, roundN, roundD]; omega
  · simp [start, roundN, roundD]; omega
  · simp [start, roundN, roundD]; omega
  · simp [start, roundN, roundD]; omega
  · simp only [start, roundN, roundD]; simp
    have e : 3 + 11 * (j + k * 30) = 3 + 11 * j + 11 * k * 30 := by omega
    rw [e, Int.add_mul_ediv_right _ _ (by decide)]; omega
  · simp only [start, roundN, roundD]; simp
    have e1 : (j + k * 2820 - 474) % 2820 = (j - 474) % 2820 := by omega
    have e2 : (j + k * 2820 - 474) / 2820 = (j - 474) / 2820 + k := by omega
    rw [e1, e2]; omega
  · simp [start, gStart, roundN, roundD]; omega
  · simp [start, roundN, roundD]; omega
  · simp [start, roundN, roundD]; omega
theorem start_one (c : Int) (h1 : 1 ≤ c) (h2 : c ≤ 10) (h7 : c ≠ 7) : start c 1 = 0 := by
  have hc : c = 1 ∨ c = 2 ∨ c = 3 ∨ c = 4 ∨ c = 5 ∨ c = 6 ∨ c = 8 ∨ c = 9 ∨ c = 10 := by omega
  rcases hc with rfl | rfl | rfl | rfl | rfl | rfl | rfl | rfl | rfl <;> decide
theorem start_bd (c y : Int) (h1 : 1 ≤ c) (h2 : c ≤ 10) (hy1 : -25000 ≤ y) (hy2 : y ≤ 25000) : -12000000 ≤ start c y ∧ start c y ≤ 12000000 := by
  have hc : c = 1 ∨ c = 2 ∨ c = 3 ∨ c = 4 ∨ c = 5 ∨ c = 6 ∨ c = 7 ∨ c = 8 ∨ c = 9 ∨ c = 10 := by omega
  rcases hc with rfl | rfl | rfl | rfl | rfl | rfl | rfl | rfl | rfl | rfl
  · simp [start, gStart]; omega
  · simp [start]; omega
  · simp [start]; omega
  · simp [start]; omega
  · simp [start]; omega
  · simp [start]; omega
  · simp only [start, hStart, elapsed, day0, moons]; simp
    have m1 : -400000 ≤ (235 * y - 234) / 19 ∧ (235 * y - 234) / 19 ≤ 400000 := by omega
    have m2 : -400000 ≤ (235 * (y + 1) - 234) / 19 ∧ (235 * (y + 1) - 234) / 19 ≤ 400000 := by omega
    have e : -9500000 ≤ elapsed y ∧ elapsed y ≤ 9500000 := by
      unfold elapsed day0 moons
      have m3 : -309500 ≤ (235 * y - 234) / 19 ∧ (235 * y - 234) / 19 ≤ 309500 := by omega
      generalize (235 * y - 234) / 19 = m at *
      split <;> omega
    change -12000000 ≤ hStart y ∧ hStart y ≤ 12000000
    unfold hStart
    split <;> (try split) <;> omega
  · simp [start, gStart]; omega
  · simp [start]; omega
  · simp [start]; omega
theorem length_bd (c y m : Int) : 0 ≤ length c y m ∧ length c y m ≤ 31 := by
  unfold length roman
  repeat' split
  all_goals (first | omega | (simp only []; repeat' split) )
  all_goals omega
theorem upTo_bd (c y : Int) (k : Nat) : 0 ≤ upTo c y k ∧ upTo c y k ≤ 31 * k := by
  induction k with
  | zero => simp [upTo]
  | succ k ih => have := length_bd c y (k + 1); simp only [upTo]; push_cast; omega
theorem first_bd (c : Int) : -2092590 ≤ first c ∧ first c ≤ -64748 := by
  unfold first; repeat' split
  all_goals omega
/-- The number of a date. -/
def dayOf (c y m d : Int) : Int := first c + start c y + d - 1 + upTo c y (m - 1).toNat
end Dm
