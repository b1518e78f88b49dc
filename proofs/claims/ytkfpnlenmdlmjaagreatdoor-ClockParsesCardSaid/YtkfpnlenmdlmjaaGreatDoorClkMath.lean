/- Plain mathematics of times: months behind a date, periods. -/
import Derived.Test.YtkfpnlenmdlmjaaGreatDoorDaysMathC
namespace Dm
/-- A date of a later month is a later day. -/
theorem date_lt {c y m d y' m' d' : Int} (c1 : 1 ≤ c) (c2 : c ≤ 10) (h : Valid c y m d) (h' : Valid c y' m' d') (hl : y < y' ∨ (y = y' ∧ m < m')) : dayOf c y m d < dayOf c y' m' d' := by
  rcases hl with hl | ⟨rfl, hl⟩
  · have i1 := in_year c y m d c1 c2 h
    have i2 := in_year c y' m' d' c1 c2 h'
    obtain ⟨a1, a2, _⟩ := h
    obtain ⟨b1, b2, _⟩ := h'
    have := start_le c (y + 1) y' c1 c2 (by omega) (by omega) (by omega)
    omega
  · obtain ⟨_, _, a3, _, a5, a6⟩ := h
    obtain ⟨_, _, b3, _, b5, b6⟩ := h'
    have ua := upTo_at c y m a3
    have := upTo_mono c y m.toNat (m' - 1).toNat (by omega)
    unfold dayOf
    omega
theorem greg12 (y : Int) : months 1 y = 12 := by simp [months]
theorem greg_len (y m : Int) (h1 : 1 ≤ m) (h2 : m ≤ 12) : 28 ≤ length 1 y m ∧ length 1 y m ≤ 31 := by
  have hmm : m = 1 ∨ m = 2 ∨ m = 3 ∨ m = 4 ∨ m = 5 ∨ m = 6 ∨ m = 7 ∨ m = 8 ∨ m = 9 ∨ m = 10 ∨ m = 11 ∨ m = 12 := by omega
  unfold length roman
  rcases hmm with rfl | rfl | rfl | rfl | rfl | rfl | rfl | rfl | rfl | rfl | rfl | rfl <;> simp <;> (try split) <;> omega
/-- The day of a month, or its last one. -/
def clipD (y m d : Int) : Int := if d ≤ length 1 y m then d else length 1 y m
theorem clipD_bd (y m d : Int) (h1 : 1 ≤ m) (h2 : m ≤ 12) (hd : 1 ≤ d) : 1 ≤ clipD y m d ∧ clipD y m d ≤ length 1 y m ∧ clipD y m d ≤ d := by
  have := greg_len y m h1 h2
  unfold clipD; split <;> omega
theorem clip_valid {y m d : Int} (hy1 : -20000 ≤ y) (hy2 : y ≤ 20000) (h1 : 1 ≤ m) (h2 : m ≤ 12) (hd : 1 ≤ d) : Valid 1 y m (clipD y m d) := by
  have h := clipD_bd y m d h1 h2 hd
  exact ⟨hy1, hy2, h1, by rw [greg12]; exact h2, h.1, h.2.1⟩
/-- The day so many months behind a date's. -/
def monY (y m k : Int) : Int := (12 * y + m - 1 + k) / 12
def monM (y m k : Int) : Int := (12 * y + m - 1 + k) % 12 + 1
def monDay (y m d k : Int) : Int := dayOf 1 (monY y m k) (monM y m k) (clipD (monY y m k) (monM y m k) d)
theorem mon_bd (y m k : Int) : 1 ≤ monM y m k ∧ monM y m k ≤ 12 ∧ 12 * monY y m k + monM y m k = 12 * y + m + k := by unfold monM monY; omega
theorem mon_valid {y m d k : Int} (h1 : -20000 ≤ monY y m k) (h2 : monY y m k ≤ 20000) (hd : 1 ≤ d) : Valid 1 (monY y m k) (monM y m k) (clipD (monY y m k) (monM y m k) d) := by
  have := mon_bd y m k
  exact clip_valid h1 h2 this.1 this.2.1 hd
/-- So many months behind are a later day than any of an earlier month. -/
theorem mon_lt {y m d k y' m' d' : Int} (h1 : -20000 ≤ monY y m k) (h2 : monY y m k ≤ 20000) (hd : 1 ≤ d) (h' : Valid 1 y' m' d') (hi : 12 * y' + m' < 12 * y + m + k) : dayOf 1 y' m' d' < monDay y m d k := by
  have hb := mon_bd y m k
  have hv := mon_valid (d := d) h1 h2 hd
  have m12 := h'.2.2.2.1
  rw [greg12] at m12
  have m1 := h'.2.2.1
  exact date_lt (by omega) (by omega) h' hv (by omega)
theorem lt_mon {y m d k y' m' d' : Int} (h1 : -20000 ≤ monY y m k) (h2 : monY y m k ≤ 20000) (hd : 1 ≤ d) (h' : Valid 1 y' m' d') (hi : 12 * y + m + k < 12 * y' + m') : monDay y m d k < dayOf 1 y' m' d' := by
  have hb := mon_bd y m k
  have hv := mon_valid (d := d) h1 h2 hd
  have m12 := h'.2.2.2.1
  rw [greg12] at m12
  have m1 := h'.2.2.1
  exact date_lt (by omega) (by omega) hv h' (by omega)
theorem mon_zero {y m d : Int} (h : Valid 1 y m d) : monDay y m d 0 = dayOf 1 y m d := by
  obtain ⟨_, _, h3, h4, h5, h6⟩ := h
  rw [greg12] at h4
  have e1 : monY y m 0 = y := by unfold monY; omega
  have e2 : monM y m 0 = m := by unfold monM; omega
  unfold monDay
  rw [e1, e2]
  have : clipD y m d = d := if_pos h6
  rw [this]
/-- Days of one month lie no more than 30 apart; days of a month and the next one: as the days of the months do. -/
theorem mon_same {y m d k y' m' d' : Int} (hd : 1 ≤ d) (h' : Valid 1 y' m' d') (hi : 12 * y' + m' = 12 * y + m + k) : dayOf 1 y' m' d' - monDay y m d k ≤ 30 ∧ dayOf 1 y' m' d' - monDay y m d k = d' - clipD y' m' d ∧ monY y m k = y' ∧ monM y m k = m' := by
  have hb := mon_bd y m k
  obtain ⟨_, _, m1, m12, h5, h6⟩ := h'
  rw [greg12] at m12
  have ey : monY y m k = y' := by omega
  have em : monM y m k = m' := by omega
  have hc := clipD_bd y' m' d m1 m12 hd
  have hl := greg_len y' m' m1 m12
  unfold monDay
  rw [ey, em]
  unfold dayOf
  exact ⟨by omega, by omega, rfl, rfl⟩
theorem next_month_day (y m : Int) (hy1 : -20000 ≤ y) (hy2 : y < 20000) (h1 : 1 ≤ m) (h2 : m ≤ 12) : dayOf 1 (monY y m 1) (monM y m 1) 1 = dayOf 1 y m 1 + length 1 y m := by
  by_cases h : m < 12
  · have e1 : monY y m 1 = y := by unfold monY; omega
    have e2 : monM y m 1 = m + 1 := by unfold monM; omega
    rw [e1, e2]
    have hu := upTo_at 1 y m h1
    unfold dayOf
    rw [show m + 1 - 1 = m by omega]
    omega
  · have e1 : monY y m 1 = y + 1 := by unfold monY; omega
    have e2 : monM y m 1 = 1 := by unfold monM; omega
    have em : m = 12 := by omega
    rw [e1, e2]
    have hs := sum_all 1 y (by omega) (by omega) (by omega) (by omega)
    rw [greg12] at hs
    unfold yearDays at hs
    have hu := upTo_at 1 y m h1
    rw [em] at hu ⊢
    unfold dayOf
    rw [show ((1 : Int) - 1).toNat = 0 from rfl, show upTo 1 (y + 1) 0 = 0 from rfl]
    omega
/-- What is a date's month, or the next one, and a day before the day so many months behind: no more than 30 days, or 31 less something. -/
theorem mon_before {y m d k y' m' d' : Int} (hy1 : -20000 ≤ monY y m k) (hy2 : monY y m k < 20000) (hd : 1 ≤ d) (h' : Valid 1 y' m' d') (hi : 12 * y' + m' = 12 * y + m + k + 1) (hle : d' ≤ clipD y' m' d) :
    dayOf 1 y' m' d' - monDay y m d k ≤ 31 ∧ (d' < clipD y' m' d → dayOf 1 y' m' d' - monDay y m d k ≤ 30) := by
  have hb := mon_bd y m k
  obtain ⟨_, _, m1, m12, h5, h6⟩ := h'
  rw [greg12] at m12
  have hn := next_month_day (monY y m k) (monM y m k) hy1 hy2 hb.1 hb.2.1
  have hb2 := mon_bd (monY y m k) (monM y m k) 1
  have ey : monY (monY y m k) (monM y m k) 1 = y' := by omega
  have em : monM (monY y m k) (monM y m k) 1 = m' := by omega
  clear hb2
  rw [ey, em] at hn
  have hc := clipD_bd y' m' d m1 m12 hd
  have hl := greg_len (monY y m k) (monM y m k) hb.1 hb.2.1
  have hl2 := greg_len y' m' m1 m12
  have hc0 : clipD (monY y m k) (monM y m k) d = if d ≤ length 1 (monY y m k) (monM y m k) then d else length 1 (monY y m k) (monM y m k) := rfl
  have e1 : dayOf 1 y' m' d' = dayOf 1 y' m' 1 + d' - 1 := by unfold dayOf; omega
  have e2 : monDay y m d k = dayOf 1 (monY y m k) (monM y m k) 1 + clipD (monY y m k) (monM y m k) d - 1 := by unfold monDay dayOf; omega
  rw [e1, e2]
  split at hc0 <;> omega
end Dm
