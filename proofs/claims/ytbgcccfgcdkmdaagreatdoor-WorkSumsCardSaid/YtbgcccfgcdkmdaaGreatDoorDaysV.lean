/- The law DaysMeet: each day has a date in each calendar, and the next day has the next date. -/
import Derived.Test.YtbgcccfgcdkmdaaGreatDoorDaysU
import Derived.Test.YtbgcccfgcdkmdaaGreatDoorDaysR
namespace Dm
theorem length_pos (c y m : Int) (c1 : 1 ≤ c) (c2 : c ≤ 10) (h1 : 1 ≤ m) (h2 : m ≤ months c y) : 1 ≤ length c y m := by
  have hm := months_lo c y
  have hc : c = 1 ∨ c = 2 ∨ c = 3 ∨ c = 4 ∨ c = 5 ∨ c = 6 ∨ c = 7 ∨ c = 8 ∨ c = 9 ∨ c = 10 := by omega
  have h13 : m ≤ 13 := by omega
  have hmm : m = 1 ∨ m = 2 ∨ m = 3 ∨ m = 4 ∨ m = 5 ∨ m = 6 ∨ m = 7 ∨ m = 8 ∨ m = 9 ∨ m = 10 ∨ m = 11 ∨ m = 12 ∨ m = 13 := by omega
  by_cases h7 : c = 1 ∨ c = 2
  · have h12 : m ≤ 12 := by
      have : months c y = 12 := by unfold months; rw [if_pos (by omega)]
      omega
    unfold length roman
    rcases h7 with rfl | rfl <;> rcases hmm with rfl | rfl | rfl | rfl | rfl | rfl | rfl | rfl | rfl | rfl | rfl | rfl | rfl <;> simp <;> (try split) <;> omega
  · unfold length
    repeat' split
    all_goals (first | omega | (simp only []; repeat' split) )
    all_goals omega
end Dm
namespace Go.Proofs.YtbgcccfgcdkmdaaGreatDoor
open Go.RowKit
theorem next_in {c y m d n : Int} (h : Dm.Valid c y m d) (hd : Dm.dayOf c y m d = n) (hl : d < Dm.length c y m) : Dm.Valid c y m (d + 1) ∧ Dm.dayOf c y m (d + 1) = n + 1 := by
  obtain ⟨y1, y2, m1, m2, d1, d2⟩ := h
  refine ⟨⟨y1, y2, m1, m2, by omega, by omega⟩, ?_⟩
  unfold Dm.dayOf at *; omega
theorem next_month {c y m d n : Int} (c1 : 1 ≤ c) (c2 : c ≤ 10) (h : Dm.Valid c y m d) (hd : Dm.dayOf c y m d = n) (hl : d = Dm.length c y m) (hm : m < Dm.months c y) : Dm.Valid c y (m + 1) 1 ∧ Dm.dayOf c y (m + 1) 1 = n + 1 := by
  obtain ⟨y1, y2, m1, m2, d1, d2⟩ := h
  refine ⟨⟨y1, y2, by omega, by omega, by omega, Dm.length_pos c y (m + 1) c1 c2 (by omega) (by omega)⟩, ?_⟩
  have hu := Dm.upTo_at c y m m1
  unfold Dm.dayOf at *
  rw [show m + 1 - 1 = m by omega]
  omega
theorem next_year {c y m d n : Int} (c1 : 1 ≤ c) (c2 : c ≤ 10) (h : Dm.Valid c y m d) (hd : Dm.dayOf c y m d = n) (hl : d = Dm.length c y m) (hm : m = Dm.months c y) (hy : y < 20000) : Dm.Valid c (y + 1) 1 1 ∧ Dm.dayOf c (y + 1) 1 1 = n + 1 := by
  obtain ⟨y1, y2, m1, m2, d1, d2⟩ := h
  have hmo := Dm.months_lo c (y + 1)
  refine ⟨⟨by omega, by omega, by omega, by omega, by omega, Dm.length_pos c (y + 1) 1 c1 c2 (by omega) (by omega)⟩, ?_⟩
  have hs := Dm.sum_all c y c1 c2 (by omega) (by omega)
  unfold Dm.yearDays at hs
  have hu := Dm.upTo_at c y m m1
  rw [← hm] at hs
  unfold Dm.dayOf at *
  rw [show ((1 : Int) - 1).toNat = 0 from rfl, show Dm.upTo c (y + 1) 0 = 0 from rfl]
  omega
/-- The year of a day lies within the years. -/
theorem year_in {c y m d n : Int} (c1 : 1 ≤ c) (c2 : c ≤ 10) (h : Dm.Valid c y m d) (hd : Dm.dayOf c y m d = n) (h1 : -4000000 ≤ n) (h2 : n ≤ 4000000) : y < 20000 := by
  have hi := Dm.in_year c y m d c1 c2 h
  have hf := Dm.first_bd c
  have l1 := Dm.lin_start c y c1 c2
  unfold Dm.Lin at l1
  omega
end Go.Proofs.YtbgcccfgcdkmdaaGreatDoor
