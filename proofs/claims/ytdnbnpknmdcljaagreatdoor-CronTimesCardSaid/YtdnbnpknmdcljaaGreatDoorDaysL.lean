/- The number of a date: the document's. -/
import Derived.Test.YtdnbnpknmdcljaaGreatDoorDaysK
namespace Go.Proofs.YtdnbnpknmdcljaaGreatDoor
open Go.RowKit
/-- What is wrong with a date, but for the range. -/
def dateE (c y m d : Int) : Int := if lenE c y m ≠ 0 then lenE c y m else if d < 1 ∨ Dm.length c y m < d then 3 else 0
def dayE (c y m d : Int) : Int := if dateE c y m d ≠ 0 then dateE c y m d else if -4000000 ≤ Dm.dayOf c y m d ∧ Dm.dayOf c y m d ≤ 4000000 then 0 else 4
def dayR (c y m d : Int) : Int := if dayE c y m d = 0 then Dm.dayOf c y m d else 0
/-- The ways of a date. -/
theorem date_ways (c y m d : Int) : (lenE c y m ≠ 0) ∨ (lenE c y m = 0 ∧ (d < 1 ∨ Dm.length c y m < d)) ∨ (lenE c y m = 0 ∧ 1 ≤ d ∧ d ≤ Dm.length c y m) := by omega
theorem lenE_parts {c y m : Int} (h : lenE c y m = 0) : 1 ≤ c ∧ c ≤ 10 ∧ -20000 ≤ y ∧ y ≤ 20000 ∧ 1 ≤ m ∧ m ≤ Dm.months c y := by
  rcases year_ways c y with h0 | ⟨h1, h2, h0⟩ | ⟨h1, h2, h3, h4⟩
  · rw [lenE_bad (by rw [yearE_cal h0]; decide), yearE_cal h0] at h; exact absurd h (by decide)
  · rw [lenE_bad (by rw [yearE_range h1 h2 h0]; decide), yearE_range h1 h2 h0] at h; exact absurd h (by decide)
  · by_cases hm : m < 1 ∨ Dm.months c y < m
    · rw [lenE_date (yearE_ok h1 h2 h3 h4) hm] at h; exact absurd h (by decide)
    · omega
theorem dayE_len {c y m d : Int} (h : lenE c y m ≠ 0) : dayE c y m d = lenE c y m ∧ dayR c y m d = 0 := by
  have e : dateE c y m d = lenE c y m := if_pos h
  have e2 : dayE c y m d = lenE c y m := by unfold dayE; rw [e, if_pos h]
  exact ⟨e2, by unfold dayR; rw [e2, if_neg h]⟩
theorem dayE_date {c y m d : Int} (h : lenE c y m = 0) (hd : d < 1 ∨ Dm.length c y m < d) : dayE c y m d = 3 ∧ dayR c y m d = 0 := by
  have e : dateE c y m d = 3 := by unfold dateE; rw [if_neg (by simp [h]), if_pos hd]
  have e2 : dayE c y m d = 3 := by unfold dayE; rw [e, if_pos (by decide)]
  exact ⟨e2, by unfold dayR; rw [e2, if_neg (by decide)]⟩
theorem dayE_ok {c y m d : Int} (h : lenE c y m = 0) (hd1 : 1 ≤ d) (hd2 : d ≤ Dm.length c y m) : dayE c y m d = (if -4000000 ≤ Dm.dayOf c y m d ∧ Dm.dayOf c y m d ≤ 4000000 then 0 else 4) ∧ dayR c y m d = (if -4000000 ≤ Dm.dayOf c y m d ∧ Dm.dayOf c y m d ≤ 4000000 then Dm.dayOf c y m d else 0) := by
  have e : dateE c y m d = 0 := by unfold dateE; rw [if_neg (by simp [h]), if_neg (by omega)]
  have e2 : dayE c y m d = (if -4000000 ≤ Dm.dayOf c y m d ∧ Dm.dayOf c y m d ≤ 4000000 then 0 else 4) := by unfold dayE; rw [e, if_neg (by simp)]
  refine ⟨e2, ?_⟩
  unfold dayR
  rw [e2]
  split <;> simp
end Go.Proofs.YtdnbnpknmdcljaaGreatDoor
