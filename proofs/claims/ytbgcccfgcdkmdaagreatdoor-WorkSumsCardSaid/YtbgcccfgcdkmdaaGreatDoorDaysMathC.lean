/- Plain mathematics of ten calendars, third part: bounds of years, and that one day has one date. -/
import Derived.Test.YtbgcccfgcdkmdaaGreatDoorDaysMathB
namespace Dm
/-- Years lie between 354 and 366 days apart, on the whole. -/
def Lin (y s : Int) : Prop := (1 ≤ y → 354 * (y - 1) - 100 ≤ s ∧ s ≤ 366 * (y - 1) + 100) ∧ (y ≤ 1 → 366 * (y - 1) - 100 ≤ s ∧ s ≤ 354 * (y - 1) + 100)
theorem lin_elapsed (y : Int) : (1 ≤ y → 354 * (y - 1) - 50 ≤ elapsed y ∧ elapsed y ≤ 366 * (y - 1) + 50) ∧ (y ≤ 1 → 366 * (y - 1) - 50 ≤ elapsed y ∧ elapsed y ≤ 354 * (y - 1) + 50) := by
  unfold elapsed day0 moons
  generalize hm : (235 * y - 234) / 19 = m
  have h1 : 19 * m ≤ 235 * y - 234 := by omega
  have h2 : 235 * y - 234 < 19 * m + 19 := by omega
  clear hm
  generalize hq : (12084 + 13753 * m) / 25920 = q
  have h3 : 25920 * q ≤ 12084 + 13753 * m := by omega
  have h4 : 12084 + 13753 * m < 25920 * q + 25920 := by omega
  clear hq
  split <;> omega
theorem lin_start (c y : Int) (h1 : 1 ≤ c) (h2 : c ≤ 10) : Lin y (start c y) := by
  unfold Lin
  have hc : c = 1 ∨ c = 2 ∨ c = 3 ∨ c = 4 ∨ c = 5 ∨ c = 6 ∨ c = 7 ∨ c = 8 ∨ c = 9 ∨ c = 10 := by omega
  rcases hc with rfl | rfl | rfl | rfl | rfl | rfl | rfl | rfl | rfl | rfl
  · simp only [start, gStart]; simp; omega
  · simp only [start]; simp; omega
  · simp only [start]; simp; omega
  · simp only [start]; simp; omega
  · simp only [start]; simp; omega
  · simp only [start]; simp
    generalize hr : (y - 474) % 2820 = r
    generalize hq : (y - 474) / 2820 = q
    have : y - 474 = 2820 * q + r ∧ 0 ≤ r ∧ r < 2820 := by omega
    clear hr hq
    obtain ⟨e, r1, r2⟩ := this
    obtain rfl : y = 2820 * q + r + 474 := by omega
    omega
  · have := lin_elapsed y
    simp only [start, hStart]; simp
    split <;> (try split) <;> omega
  · simp only [start, gStart]; simp; omega
  · simp only [start]; simp; omega
  · simp only [start]; simp; omega
theorem start_mono (c a : Int) (k : Nat) (c1 : 1 ≤ c) (c2 : c ≤ 10) (h1 : -20099 ≤ a) (h2 : a + k ≤ 20899) : start c a + 353 * k ≤ start c (a + k) := by
  induction k with
  | zero => simp
  | succ k ih =>
    have hd := days_bd c (a + k) c1 c2 (by omega) (by omega)
    unfold yearDays at hd
    have e : a + ((k + 1 : Nat) : Int) = a + k + 1 := by omega
    have := ih (by omega)
    rw [e]
    omega
theorem start_le (c a b : Int) (c1 : 1 ≤ c) (c2 : c ≤ 10) (h1 : -20099 ≤ a) (h2 : b ≤ 20899) (h : a ≤ b) : start c a + 353 * (b - a) ≤ start c b := by
  have := start_mono c a (b - a).toNat c1 c2 h1 (by omega)
  have e : a + ((b - a).toNat : Int) = b := by omega
  rw [e] at this
  omega
theorem upTo_mono (c y : Int) (k j : Nat) (h : k ≤ j) : upTo c y k ≤ upTo c y j := by
  induction j with
  | zero => obtain rfl : k = 0 := by omega
            exact Int.le_refl _
  | succ j ih =>
    by_cases e : k = j + 1
    · rw [e]; exact Int.le_refl _
    · have := ih (by omega)
      have hl := length_bd c y (j + 1)
      simp only [upTo]
      omega
/-- A date that there is. -/
def Valid (c y m d : Int) : Prop := -20000 ≤ y ∧ y ≤ 20000 ∧ 1 ≤ m ∧ m ≤ months c y ∧ 1 ≤ d ∧ d ≤ length c y m
theorem upTo_at (c y m : Int) (hm : 1 ≤ m) : upTo c y m.toNat = upTo c y (m - 1).toNat + length c y m := by
  obtain ⟨k, rfl⟩ : ∃ k : Nat, m = k + 1 := ⟨(m - 1).toNat, by omega⟩
  have e1 : ((k : Int) + 1).toNat = k + 1 := by omega
  have e2 : ((k : Int) + 1 - 1).toNat = k := by omega
  rw [e1, e2]
  rfl
theorem in_year (c y m d : Int) (c1 : 1 ≤ c) (c2 : c ≤ 10) (h : Valid c y m d) : start c y ≤ dayOf c y m d - first c ∧ dayOf c y m d - first c < start c (y + 1) := by
  obtain ⟨h1, h2, h3, h4, h5, h6⟩ := h
  have hs := sum_all c y c1 c2 (by omega) (by omega)
  unfold yearDays at hs
  have hb := upTo_bd c y (m - 1).toNat
  have ha := upTo_at c y m h3
  have hm := upTo_mono c y m.toNat (months c y).toNat (by omega)
  unfold dayOf
  omega
/-- ONE DAY, ONE DATE. -/
theorem date_one (c y m d y' m' d' : Int) (c1 : 1 ≤ c) (c2 : c ≤ 10) (h : Valid c y m d) (h' : Valid c y' m' d') (e : dayOf c y m d = dayOf c y' m' d') : y = y' ∧ m = m' ∧ d = d' := by
  have i1 := in_year c y m d c1 c2 h
  have i2 := in_year c y' m' d' c1 c2 h'
  rw [e] at i1
  have hy : y = y' := by
    obtain ⟨a1, a2, _⟩ := h
    obtain ⟨b1, b2, _⟩ := h'
    rcases Int.lt_trichotomy y y' with hl | hl | hl
    · have := start_le c (y + 1) y' c1 c2 (by omega) (by omega) (by omega); omega
    · exact hl
    · have := start_le c (y' + 1) y c1 c2 (by omega) (by omega) (by omega); omega
  subst hy
  obtain ⟨_, _, a3, _, a5, a6⟩ := h
  obtain ⟨_, _, b3, _, b5, b6⟩ := h'
  unfold dayOf at e
  have ua := upTo_at c y m a3
  have ub := upTo_at c y m' b3
  have hm : m = m' := by
    rcases Int.lt_trichotomy m m' with hl | hl | hl
    · have := upTo_mono c y m.toNat (m' - 1).toNat (by omega); omega
    · exact hl
    · have := upTo_mono c y m'.toNat (m - 1).toNat (by omega); omega
  subst hm
  exact ⟨rfl, rfl, by omega⟩
end Dm
