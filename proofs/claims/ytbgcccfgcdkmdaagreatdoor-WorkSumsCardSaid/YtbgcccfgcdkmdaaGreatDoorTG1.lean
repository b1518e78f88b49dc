/- Plain mathematics of times: months behind a date, periods. Times, their days and clocks: the program's. The document's Gregorian date of a day. Times, their days and clocks: the document's. Times of work: plain; work.start, work.Between. work.Between. work.After. The document's WorkBetween. The document's WorkAfter. plain.WorkAfter; the law WorkTimes. -/
import Derived.Test.YtbgcccfgcdkmdaaGreatDoorDaysMathC
import Derived.Test.YtbgcccfgcdkmdaaGreatDoorDaysO
import Derived.Test.YtbgcccfgcdkmdaaGreatDoorDaysR
import Derived.Test.YtbgcccfgcdkmdaaGreatDoorUG1
namespace Dm
/-- A date of a later month is a later day. -/
theorem date_lt {c y m d y' m' d' : Int} (c1 : 1 ≤ c) (c2 : c ≤ 10) (h : Valid c y m d) (h' : Valid c y' m' d') (hl : y < y' ∨ (y = y' ∧ m < m')) : dayOf c y m d < dayOf c y' m' d' := by
  rcases hl with hl | ⟨rfl, hl⟩
  · have i1 := in_year c y m d c1 c2 h
    have i2 := in_year c y' m' d' c1 c2 h'
    obtain ⟨a1, a2, _⟩ := h
    obtain ⟨b1, b2, _⟩ := h'
    have := start_le c (y + 1) y' c1 c2 (by omega) (by omega) (by omega)
    omega
  · obtain ⟨_, _, a3, _, a5, a6⟩ := h
    obtain ⟨_, _, b3, _, b5, b6⟩ := h'
    have ua := upTo_at c y m a3
    have := upTo_mono c y m.toNat (m' - 1).toNat (by omega)
    unfold dayOf
    omega
theorem greg12 (y : Int) : months 1 y = 12 := by simp [months]
theorem greg_len (y m : Int) (h1 : 1 ≤ m) (h2 : m ≤ 12) : 28 ≤ length 1 y m ∧ length 1 y m ≤ 31 := by
  have hmm : m = 1 ∨ m = 2 ∨ m = 3 ∨ m = 4 ∨ m = 5 ∨ m = 6 ∨ m = 7 ∨ m = 8 ∨ m = 9 ∨ m = 10 ∨ m = 11 ∨ m = 12 := by omega
  unfold length roman
  rcases hmm with rfl | rfl | rfl | rfl | rfl | rfl | rfl | rfl | rfl | rfl | rfl | rfl <;> simp <;> (try split) <;> omega
/-- The day of a month, or its last one. -/
def clipD (y m d : Int) : Int := if d ≤ length 1 y m then d else length 1 y m
theorem clipD_bd (y m d : Int) (h1 : 1 ≤ m) (h2 : m ≤ 12) (hd : 1 ≤ d) : 1 ≤ clipD y m d ∧ clipD y m d ≤ length 1 y m ∧ clipD y m d ≤ d := by
  have := greg_len y m h1 h2
  unfold clipD; split <;> omega
theorem clip_valid {y m d : Int} (hy1 : -20000 ≤ y) (hy2 : y ≤ 20000) (h1 : 1 ≤ m) (h2 : m ≤ 12) (hd : 1 ≤ d) : Valid 1 y m (clipD y m d) := by
  have h := clipD_bd y m d h1 h2 hd
  exact ⟨hy1, hy2, h1, by rw [greg12]; exact h2, h.1, h.2.1⟩
/-- The day so many months behind a date's. -/
def monY (y m k : Int) : Int := (12 * y + m - 1 + k) / 12
def monM (y m k : Int) : Int := (12 * y + m - 1 + k) % 12 + 1
def monDay (y m d k : Int) : Int := dayOf 1 (monY y m k) (monM y m k) (clipD (monY y m k) (monM y m k) d)
theorem mon_bd (y m k : Int) : 1 ≤ monM y m k ∧ monM y m k ≤ 12 ∧ 12 * monY y m k + monM y m k = 12 * y + m + k := by unfold monM monY; omega
theorem mon_valid {y m d k : Int} (h1 : -20000 ≤ monY y m k) (h2 : monY y m k ≤ 20000) (hd : 1 ≤ d) : Valid 1 (monY y m k) (monM y m k) (clipD (monY y m k) (monM y m k) d) := by
  have := mon_bd y m k
  exact clip_valid h1 h2 this.1 this.2.1 hd
/-- So many months behind are a later day than any of an earlier month. -/
theorem mon_lt {y m d k y' m' d' : Int} (h1 : -20000 ≤ monY y m k) (h2 : monY y m k ≤ 20000) (hd : 1 ≤ d) (h' : Valid 1 y' m' d') (hi : 12 * y' + m' < 12 * y + m + k) : dayOf 1 y' m' d' < monDay y m d k := by
  have hb := mon_bd y m k
  have hv := mon_valid (d := d) h1 h2 hd
  have m12 := h'.2.2.2.1
  rw [greg12] at m12
  have m1 := h'.2.2.1
  exact date_lt (by omega) (by omega) h' hv (by omega)
theorem lt_mon {y m d k y' m' d' : Int} (h1 : -20000 ≤ monY y m k) (h2 : monY y m k ≤ 20000) (hd : 1 ≤ d) (h' : Valid 1 y' m' d') (hi : 12 * y + m + k < 12 * y' + m') : monDay y m d k < dayOf 1 y' m' d' := by
  have hb := mon_bd y m k
  have hv := mon_valid (d := d) h1 h2 hd
  have m12 := h'.2.2.2.1
  rw [greg12] at m12
  have m1 := h'.2.2.1
  exact date_lt (by omega) (by omega) hv h' (by omega)
theorem mon_zero {y m d : Int} (h : Valid 1 y m d) : monDay y m d 0 = dayOf 1 y m d := by
  obtain ⟨_, _, h3, h4, h5, h6⟩ := h
  rw [greg12] at h4
  have e1 : monY y m 0 = y := by unfold monY; omega
  have e2 : monM y m 0 = m := by unfold monM; omega
  unfold monDay
  rw [e1, e2]
  have : clipD y m d = d := if_pos h6
  rw [this]
/-- Days of one month lie no more than 30 apart; days of a month and the next one: as the days of the months do. -/
theorem mon_same {y m d k y' m' d' : Int} (hd : 1 ≤ d) (h' : Valid 1 y' m' d') (hi : 12 * y' + m' = 12 * y + m + k) : dayOf 1 y' m' d' - monDay y m d k ≤ 30 ∧ dayOf 1 y' m' d' - monDay y m d k = d' - clipD y' m' d ∧ monY y m k = y' ∧ monM y m k = m' := by
  have hb := mon_bd y m k
  obtain ⟨_, _, m1, m12, h5, h6⟩ := h'
  rw [greg12] at m12
  have ey : monY y m k = y' := by omega
  have em : monM y m k = m' := by omega
  have hc := clipD_bd y' m' d m1 m12 hd
  have hl := greg_len y' m' m1 m12
  unfold monDay
  rw [ey, em]
  unfold dayOf
  exact ⟨by omega, by omega, rfl, rfl⟩
theorem next_month_day (y m : Int) (hy1 : -20000 ≤ y) (hy2 : y < 20000) (h1 : 1 ≤ m) (h2 : m ≤ 12) : dayOf 1 (monY y m 1) (monM y m 1) 1 = dayOf 1 y m 1 + length 1 y m := by
  by_cases h : m < 12
  · have e1 : monY y m 1 = y := by unfold monY; omega
    have e2 : monM y m 1 = m + 1 := by unfold monM; omega
    rw [e1, e2]
    have hu := upTo_at 1 y m h1
    unfold dayOf
    rw [show m + 1 - 1 = m by omega]
    omega
  · have e1 : monY y m 1 = y + 1 := by unfold monY; omega
    have e2 : monM y m 1 = 1 := by unfold monM; omega
    have em : m = 12 := by omega
    rw [e1, e2]
    have hs := sum_all 1 y (by omega) (by omega) (by omega) (by omega)
    rw [greg12] at hs
    unfold yearDays at hs
    have hu := upTo_at 1 y m h1
    rw [em] at hu ⊢
    unfold dayOf
    rw [show ((1 : Int) - 1).toNat = 0 from rfl, show upTo 1 (y + 1) 0 = 0 from rfl]
    omega
/-- What is a date's month, or the next one, and a day before the day so many months behind: no more than 30 days, or 31 less something. -/
theorem mon_before {y m d k y' m' d' : Int} (hy1 : -20000 ≤ monY y m k) (hy2 : monY y m k < 20000) (hd : 1 ≤ d) (h' : Valid 1 y' m' d') (hi : 12 * y' + m' = 12 * y + m + k + 1) (hle : d' ≤ clipD y' m' d) :
    dayOf 1 y' m' d' - monDay y m d k ≤ 31 ∧ (d' < clipD y' m' d → dayOf 1 y' m' d' - monDay y m d k ≤ 30) := by
  have hb := mon_bd y m k
  obtain ⟨_, _, m1, m12, h5, h6⟩ := h'
  rw [greg12] at m12
  have hn := next_month_day (monY y m k) (monM y m k) hy1 hy2 hb.1 hb.2.1
  have hb2 := mon_bd (monY y m k) (monM y m k) 1
  have ey : monY (monY y m k) (monM y m k) 1 = y' := by omega
  have em : monM (monY y m k) (monM y m k) 1 = m' := by omega
  clear hb2
  rw [ey, em] at hn
  have hc := clipD_bd y' m' d m1 m12 hd
  have hl := greg_len (monY y m k) (monM y m k) hb.1 hb.2.1
  have hl2 := greg_len y' m' m1 m12
  have hc0 : clipD (monY y m k) (monM y m k) d = if d ≤ length 1 (monY y m k) (monM y m k) then d else length 1 (monY y m k) (monM y m k) := rfl
  have e1 : dayOf 1 y' m' d' = dayOf 1 y' m' 1 + d' - 1 := by unfold dayOf; omega
  have e2 : monDay y m d k = dayOf 1 (monY y m k) (monM y m k) 1 + clipD (monY y m k) (monM y m k) d - 1 := by unfold monDay dayOf; omega
  rw [e1, e2]
  split at hc0 <;> omega
end Dm
namespace Go.Proofs.YtbgcccfgcdkmdaaGreatDoor
open Go.RowKit
/-- There is such a time. -/
def LocOK (t : Int) : Prop := -345600000000 ≤ t ∧ t ≤ 345600086399
def locE (t : Int) : Int := if -345600000000 ≤ t ∧ t ≤ 345600086399 then 0 else 4
def locD (t : Int) : Int := if -345600000000 ≤ t ∧ t ≤ 345600086399 then t / 86400 else 0
def locS (t : Int) : Int := if -345600000000 ≤ t ∧ t ≤ 345600086399 then t % 86400 else 0
theorem loc_in {t : Int} (h1 : -345600000000 ≤ t) (h2 : t ≤ 345600086399) : locE t = 0 ∧ locD t = t / 86400 ∧ locS t = t % 86400 := ⟨if_pos ⟨h1, h2⟩, if_pos ⟨h1, h2⟩, if_pos ⟨h1, h2⟩⟩
theorem loc_out {t : Int} (h : t < -345600000000 ∨ 345600086399 < t) : locE t = 4 ∧ locD t = 0 ∧ locS t = 0 := ⟨if_neg (by omega), if_neg (by omega), if_neg (by omega)⟩
theorem loc_ways (t : Int) : (t < -345600000000 ∨ 345600086399 < t) ∨ (-345600000000 ≤ t ∧ t ≤ 345600086399) := by omega
theorem day_of_loc {t : Int} (h1 : -345600000000 ≤ t) (h2 : t ≤ 345600086399) : -4000000 ≤ t / 86400 ∧ t / 86400 ≤ 4000000 := by omega
set_option maxRecDepth 100000 in
set_option maxHeartbeats 1000000 in
theorem clkThere_any (t : Int) (w : World) : Calls Tryz.prog 71 #[.int .i64 t] w fun e w' => e = .returned (.bool (decide (-345600000000 ≤ t) && decide (t ≤ 345600086399))) ∧ w = w' := by
  go_enter Tryz.func71, Tryz.ntmps71
  go_wp2
  all_goals go_ret
  all_goals exact ⟨retB (by simp_all <;> omega), rfl⟩
set_option maxRecDepth 100000 in
set_option maxHeartbeats 1000000 in
theorem split_all (t : Int) (w : World) : Calls Tryz.prog 46 #[.int .i64 t] w fun e w' => e = .returned (.tuple #[.int .i64 (locD t), .int .i64 (locS t), errV (locE t)]) ∧ w = w' := by
  rcases loc_ways t with h | ⟨h1, h2⟩
  · rw [(loc_out h).1, (loc_out h).2.1, (loc_out h).2.2]
    have hb : (decide (-345600000000 ≤ t) && decide (t ≤ 345600086399)) = false := by simp; omega
    clear h
    go_enter Tryz.func46, Tryz.ntmps46
    go_wp2_with fail
    refine (clkThere_any _ _).mono ?_; rintro e w' ⟨rfl, rfl⟩
    rw [hb]
    go_wp2_with fail
    exact bodyPost_ret (v := .tuple #[.int .i64 0, .int .i64 0, errV 4]) (by simp [results, Tryz.results46, go_sem, errV]) rfl ⟨rfl, rfl⟩
  · rw [(loc_in h1 h2).1, (loc_in h1 h2).2.1, (loc_in h1 h2).2.2]
    have hb : (decide (-345600000000 ≤ t) && decide (t ≤ 345600086399)) = true := by simp; omega
    have h3 := tmod_fact t 86400 (by omega)
    have e2 := sub_emod_ediv t 86400 (by omega)
    have ht : (t - t % 86400).tmod 86400 = 0 := by rw [show t - t % 86400 = 86400 * (t / 86400) by omega]; exact Int.mul_tmod_right _ _
    have hf := tdiv_pos (t - t % 86400) 86400 (by omega) (by omega)
    rw [e2] at hf
    clear e2 ht
    by_cases hn : t.tmod 86400 < 0
    · have hm := tmod_neg t 86400 (by omega) hn
      have HF := Lib.hid (And.intro hf hm); clear hf hm
      go_enter Tryz.func46, Tryz.ntmps46
      go_wp2_with fail
      refine (clkThere_any _ _).mono ?_; rintro e w' ⟨rfl, rfl⟩
      rw [hb]
      go_wp2_with fail
      exact bodyPost_ret (v := .tuple #[.int .i64 (t / 86400), .int .i64 (t % 86400), errV 0]) (by simp [results, Tryz.results46, go_sem, errV, HF.out.2, HF.out.1]) rfl ⟨rfl, rfl⟩
    · have hm := tmod_pos t 86400 (by omega) (by omega)
      have HF := Lib.hid (And.intro hf hm); clear hf hm
      go_enter Tryz.func46, Tryz.ntmps46
      go_wp2_with fail
      refine (clkThere_any _ _).mono ?_; rintro e w' ⟨rfl, rfl⟩
      rw [hb]
      go_wp2_with fail
      exact bodyPost_ret (v := .tuple #[.int .i64 (t / 86400), .int .i64 (t % 86400), errV 0]) (by simp [results, Tryz.results46, go_sem, errV, HF.out.2, HF.out.1]) rfl ⟨rfl, rfl⟩
/-- The time of a day's second, and what is wrong with it. -/
def joinE (d s : Int) : Int := if s < 0 ∨ 86400 ≤ s then 3 else if -4000000 ≤ d ∧ d ≤ 4000000 then 0 else 4
def joinR (d s : Int) : Int := if joinE d s = 0 then d * 86400 + s else 0
theorem join_sec {d s : Int} (h : s < 0 ∨ 86400 ≤ s) : joinE d s = 3 ∧ joinR d s = 0 := by
  have e : joinE d s = 3 := if_pos h
  exact ⟨e, by unfold joinR; rw [e, if_neg (by decide)]⟩
theorem join_day {d s : Int} (h1 : 0 ≤ s) (h2 : s < 86400) (h : d < -4000000 ∨ 4000000 < d) : joinE d s = 4 ∧ joinR d s = 0 := by
  have e : joinE d s = 4 := (if_neg (by omega)).trans (if_neg (by omega))
  exact ⟨e, by unfold joinR; rw [e, if_neg (by decide)]⟩
theorem join_ok {d s : Int} (h1 : 0 ≤ s) (h2 : s < 86400) (h3 : -4000000 ≤ d) (h4 : d ≤ 4000000) : joinE d s = 0 ∧ joinR d s = d * 86400 + s := by
  have e : joinE d s = 0 := (if_neg (by omega)).trans (if_pos ⟨h3, h4⟩)
  exact ⟨e, if_pos e⟩
/-- The time of a clock on a day. -/
def ClkBad (h m s : Int) : Prop := h < 0 ∨ 23 < h ∨ m < 0 ∨ 59 < m ∨ s < 0 ∨ 59 < s
def cofE (d h m s : Int) : Int := if h < 0 ∨ 23 < h ∨ m < 0 ∨ 59 < m ∨ s < 0 ∨ 59 < s then 3 else joinE d ((h * 60 + m) * 60 + s)
def cofR (d h m s : Int) : Int := if h < 0 ∨ 23 < h ∨ m < 0 ∨ 59 < m ∨ s < 0 ∨ 59 < s then 0 else joinR d ((h * 60 + m) * 60 + s)
theorem cof_ways (h m s : Int) : (h < 0 ∨ (¬ h < 0 ∧ 23 < h) ∨ (¬ h < 0 ∧ ¬ 23 < h ∧ m < 0) ∨ (¬ h < 0 ∧ ¬ 23 < h ∧ ¬ m < 0 ∧ 59 < m) ∨ (¬ h < 0 ∧ ¬ 23 < h ∧ ¬ m < 0 ∧ ¬ 59 < m ∧ s < 0) ∨ (¬ h < 0 ∧ ¬ 23 < h ∧ ¬ m < 0 ∧ ¬ 59 < m ∧ ¬ s < 0 ∧ 59 < s)) ∨ (0 ≤ h ∧ h ≤ 23 ∧ 0 ≤ m ∧ m ≤ 59 ∧ 0 ≤ s ∧ s ≤ 59) := by omega
theorem set_at {w : World} {B o : Nat} {v : Value} (h : ∃ x, w.cell? ⟨B, o, none⟩ = some x) : (w.setCell ⟨B, o, none⟩ v).cell? ⟨B, o, none⟩ = some v := by
  obtain ⟨x, hx⟩ := h
  exact World.cell?_setCell_same w _ v hx
theorem set_off {w : World} {B B' o o' : Nat} {v : Value} (h : B ≠ B' ∨ o ≠ o') : (w.setCell ⟨B, o, none⟩ v).cell? ⟨B', o', none⟩ = w.cell? ⟨B', o', none⟩ := World.cell?_setCell_other w _ _ v (by intro e; injection e; omega)
theorem set_ex {w : World} {B B' o o' : Nat} {v : Value} (h : ∃ x, w.cell? ⟨B', o', none⟩ = some x) : ∃ x, (w.setCell ⟨B, o, none⟩ v).cell? ⟨B', o', none⟩ = some x := by
  by_cases e : B = B' ∧ o = o'
  · obtain ⟨rfl, rfl⟩ := e; exact ⟨v, set_at h⟩
  · rw [set_off (by omega)]; exact h
theorem four_set {w : World} {B : Nat} {v0 v1 v2 v3 : Value} (e : ∀ i, i < 4 → ∃ x, w.cell? ⟨B, i, none⟩ = some x) :
    ((((w.setCell ⟨B, 0, none⟩ v0).setCell ⟨B, 1, none⟩ v1).setCell ⟨B, 2, none⟩ v2).setCell ⟨B, 3, none⟩ v3).cell? ⟨B, 0, none⟩ = some v0 ∧
    ((((w.setCell ⟨B, 0, none⟩ v0).setCell ⟨B, 1, none⟩ v1).setCell ⟨B, 2, none⟩ v2).setCell ⟨B, 3, none⟩ v3).cell? ⟨B, 1, none⟩ = some v1 ∧
    ((((w.setCell ⟨B, 0, none⟩ v0).setCell ⟨B, 1, none⟩ v1).setCell ⟨B, 2, none⟩ v2).setCell ⟨B, 3, none⟩ v3).cell? ⟨B, 2, none⟩ = some v2 ∧
    ((((w.setCell ⟨B, 0, none⟩ v0).setCell ⟨B, 1, none⟩ v1).setCell ⟨B, 2, none⟩ v2).setCell ⟨B, 3, none⟩ v3).cell? ⟨B, 3, none⟩ = some v3 ∧
    (∀ i, i < 4 → ∃ x, ((((w.setCell ⟨B, 0, none⟩ v0).setCell ⟨B, 1, none⟩ v1).setCell ⟨B, 2, none⟩ v2).setCell ⟨B, 3, none⟩ v3).cell? ⟨B, i, none⟩ = some x) ∧
    ∀ B' o, B ≠ B' → ((((w.setCell ⟨B, 0, none⟩ v0).setCell ⟨B, 1, none⟩ v1).setCell ⟨B, 2, none⟩ v2).setCell ⟨B, 3, none⟩ v3).cell? ⟨B', o, none⟩ = w.cell? ⟨B', o, none⟩ := by
  refine ⟨?_, ?_, ?_, ?_, fun i hi => set_ex (set_ex (set_ex (set_ex (e i hi)))), fun B' o h => ?_⟩
  · exact (set_off (.inr (by decide))).trans ((set_off (.inr (by decide))).trans ((set_off (.inr (by decide))).trans (set_at (e 0 (by decide)))))
  · exact (set_off (.inr (by decide))).trans ((set_off (.inr (by decide))).trans (set_at (set_ex (e 1 (by decide)))))
  · exact (set_off (.inr (by decide))).trans (set_at (set_ex (set_ex (e 2 (by decide)))))
  · exact set_at (set_ex (set_ex (set_ex (e 3 (by decide)))))
  · exact (set_off (.inl h)).trans ((set_off (.inl h)).trans ((set_off (.inl h)).trans (set_off (.inl h))))
theorem three_set {w : World} {B : Nat} {v0 v1 v2 : Value} (e : ∀ i, i < 3 → ∃ x, w.cell? ⟨B, i, none⟩ = some x) :
    (((w.setCell ⟨B, 0, none⟩ v0).setCell ⟨B, 1, none⟩ v1).setCell ⟨B, 2, none⟩ v2).cell? ⟨B, 0, none⟩ = some v0 ∧
    (((w.setCell ⟨B, 0, none⟩ v0).setCell ⟨B, 1, none⟩ v1).setCell ⟨B, 2, none⟩ v2).cell? ⟨B, 1, none⟩ = some v1 ∧
    (((w.setCell ⟨B, 0, none⟩ v0).setCell ⟨B, 1, none⟩ v1).setCell ⟨B, 2, none⟩ v2).cell? ⟨B, 2, none⟩ = some v2 ∧
    ∀ B' o, B ≠ B' → (((w.setCell ⟨B, 0, none⟩ v0).setCell ⟨B, 1, none⟩ v1).setCell ⟨B, 2, none⟩ v2).cell? ⟨B', o, none⟩ = w.cell? ⟨B', o, none⟩ := by
  refine ⟨?_, ?_, ?_, fun B' o h => ?_⟩
  · exact (set_off (.inr (by decide))).trans ((set_off (.inr (by decide))).trans (set_at (e 0 (by decide))))
  · exact (set_off (.inr (by decide))).trans (set_at (set_ex (e 1 (by decide))))
  · exact set_at (set_ex (set_ex (e 2 (by decide))))
  · exact (set_off (.inl h)).trans ((set_off (.inl h)).trans (set_off (.inl h)))
def clkV (h m s : Int) : Value := .agg #[.int .i64 h, .int .i64 m, .int .i64 s]
/-- The date and the clock of a time. -/
def TellR (t a y m d h mi s : Int) : Prop := ((t < -345600000000 ∨ 345600086399 < t) ∧ a = 0 ∧ y = 0 ∧ m = 0 ∧ d = 0 ∧ h = 0 ∧ mi = 0 ∧ s = 0) ∨ (-345600000000 ≤ t ∧ t ≤ 345600086399 ∧ OfR 1 (t / 86400) a y m d ∧ h = t % 86400 / 3600 ∧ mi = t % 86400 / 60 % 60 ∧ s = t % 86400 % 60)
theorem TellR.one {t a y m d h mi s a' y' m' d' h' mi' s' : Int} (g : TellR t a y m d h mi s) (g' : TellR t a' y' m' d' h' mi' s') : a = a' ∧ y = y' ∧ m = m' ∧ d = d' ∧ h = h' ∧ mi = mi' ∧ s = s' := by
  rcases g with ⟨e, rfl, rfl, rfl, rfl, rfl, rfl, rfl⟩ | ⟨e1, e2, ho, rfl, rfl, rfl⟩ <;> rcases g' with ⟨e', rfl, rfl, rfl, rfl, rfl, rfl, rfl⟩ | ⟨e1', e2', ho', rfl, rfl, rfl⟩
  · exact ⟨rfl, rfl, rfl, rfl, rfl, rfl, rfl⟩
  · omega
  · omega
  · obtain ⟨rfl, rfl, rfl, rfl⟩ := ho.one ho'
    exact ⟨rfl, rfl, rfl, rfl, rfl, rfl, rfl⟩
def TellPost (t : Int) (err : Value) (w : World) (e : Ending) (w' : World) : Prop := ∃ a y m d h mi s, e = .returned (.tuple #[dateV a y m d, clkV h mi s, err]) ∧ TellR t a y m d h mi s ∧ Below w.heap.size w w'
end Go.Proofs.YtbgcccfgcdkmdaaGreatDoor
namespace Go.Proofs.YtbgcccfgcdkmdaaGreatDoor
open Go.RowKit
theorem there_r (n : Int) (w : World) : Calls Tryz.prog 89 #[.int .i64 n] w fun e w' => e = .returned (.tuple #[.int .i64 (rangeR n), .int .i64 (rangeE n)]) ∧ w = w' := there_any n w
end Go.Proofs.YtbgcccfgcdkmdaaGreatDoor
namespace Go.Proofs.YtbgcccfgcdkmdaaGreatDoor
open Go.RowKit
/-- The day of any number of seconds, as the document reckons it, also beyond the ends. -/
def flD (t : Int) : Int := wrap64 ((wrap64 (t - t % 86400)).tdiv 86400)
theorem flD_iff {t : Int} (ht : InI t) : (-4000000 ≤ flD t ∧ flD t ≤ 4000000) ↔ (-345600000000 ≤ t ∧ t ≤ 345600086399) := by
  obtain ⟨a1, a2⟩ := ht
  have h1 := tdiv_fact (wrap64 (t - t % 86400)) 86400
  have h2 := tmod_fact (wrap64 (t - t % 86400)) 86400 (by omega)
  have hw : wrap64 (t - t % 86400) = t - t % 86400 ∨ wrap64 (t - t % 86400) = t - t % 86400 + 18446744073709551616 ∧ t < -9000000000000000000 := by
    unfold wrap64; omega
  have hr : -9223372036854775808 ≤ wrap64 (t - t % 86400) ∧ wrap64 (t - t % 86400) ≤ 9223372036854775807 := by unfold wrap64; omega
  have hd : flD t = (wrap64 (t - t % 86400)).tdiv 86400 := tdiv_in ⟨hr.1, hr.2⟩ (by omega)
  rw [hd]
  generalize (wrap64 (t - t % 86400)).tdiv 86400 = q at h1 ⊢
  generalize (wrap64 (t - t % 86400)).tmod 86400 = r at h1 h2
  generalize wrap64 (t - t % 86400) = x at h1 hw hr
  have : t % 86400 = t - 86400 * (t / 86400) := by omega
  omega
set_option maxHeartbeats 400000 in
theorem FloorDay_any (t : Int) (w : World) : Calls Tryz.prog 50 #[.int .i64 t, .int .i64 86400] w fun e w' => e = .returned (.int .i64 (flD t)) ∧ w = w' := by
  have hr : -9223372036854775808 ≤ wrap64 (t - t % 86400) ∧ wrap64 (t - t % 86400) ≤ 9223372036854775807 := by unfold wrap64; omega
  have hd : flD t = (wrap64 (t - t % 86400)).tdiv 86400 := tdiv_in ⟨hr.1, hr.2⟩ (by omega)
  have HD := Lib.hid hd
  have HT := Lib.hid (show flD t = wrap64 ((wrap64 (t - t % 86400)).tdiv 86400) from rfl)
  clear hr hd
  go_enter Tryz.func50, Tryz.ntmps50
  go_wp2_with (go_at_call 51; refine (Mod_any _ _ _ (by omega) (by omega)).mono ?_; rintro e w' ⟨rfl, rfl⟩)
  go_ret
  exact ⟨ret1 (by first | exact HT.out.symm | exact HD.out.symm), rfl⟩
set_option maxRecDepth 100000 in
set_option maxHeartbeats 400000 in
theorem localOK_any (t : Int) (w : World) (ht : InI t) : Calls Tryz.prog 49 #[.int .i64 t] w fun e w' => e = .returned (.bool (decide (-345600000000 ≤ t) && decide (t ≤ 345600086399))) ∧ w = w' := by
  have hi := flD_iff ht
  obtain ⟨F, hF⟩ : ∃ F, flD t = F := ⟨_, rfl⟩
  rw [hF] at hi
  have HF := Lib.hid (And.intro hF hi); clear hF hi ht
  go_enter Tryz.func49, Tryz.ntmps49
  go_wp2_with (go_at_call 50; refine (FloorDay_any _ _).mono ?_; rintro e w' ⟨rfl, rfl⟩; rw [HF.out.1])
  all_goals go_ret
  all_goals exact ⟨retB (by have := HF.out.2; simp_all <;> omega), rfl⟩
set_option maxRecDepth 100000 in
set_option maxHeartbeats 1000000 in
theorem refSplit_all (t : Int) (w : World) (ht : InI t) : Calls Tryz.prog 31 #[.int .i64 t] w fun e w' => e = .returned (.tuple #[.int .i64 (locD t), .int .i64 (locS t), .int .i64 (locE t)]) ∧ w = w' := by
  have HI := Lib.hid ht; clear ht
  rcases loc_ways t with h | ⟨h1, h2⟩
  · rw [(loc_out h).1, (loc_out h).2.1, (loc_out h).2.2]
    have hb : (decide (-345600000000 ≤ t) && decide (t ≤ 345600086399)) = false := by simp; omega
    clear h
    go_enter Tryz.func31, Tryz.ntmps31
    go_wp2_with fail
    refine (localOK_any _ _ HI.out).mono ?_; rintro e w' ⟨rfl, rfl⟩
    rw [hb]
    go_wp2_with fail
    exact bodyPost_ret (v := .tuple #[.int .i64 0, .int .i64 0, .int .i64 4]) (by simp [results, Tryz.results31, go_sem]) rfl ⟨rfl, rfl⟩
  · rw [(loc_in h1 h2).1, (loc_in h1 h2).2.1, (loc_in h1 h2).2.2]
    have hb : (decide (-345600000000 ≤ t) && decide (t ≤ 345600086399)) = true := by simp; omega
    go_enter Tryz.func31, Tryz.ntmps31
    go_wp2_with fail
    refine (localOK_any _ _ HI.out).mono ?_; rintro e w' ⟨rfl, rfl⟩
    rw [hb]
    go_wp2_with fail
    refine (Floor_any _ _ _ (by omega) (by omega) (by omega) (by omega)).mono ?_; rintro e w' ⟨rfl, rfl⟩
    go_wp2_with fail
    refine (Mod_any _ _ _ (by omega) (by omega)).mono ?_; rintro e w' ⟨rfl, rfl⟩
    go_wp2_with fail
    exact bodyPost_ret (v := .tuple #[.int .i64 (t / 86400), .int .i64 (t % 86400), .int .i64 0]) (by simp [results, Tryz.results31, go_sem]) rfl ⟨rfl, rfl⟩
end Go.Proofs.YtbgcccfgcdkmdaaGreatDoor
namespace Go.Proofs.YtbgcccfgcdkmdaaGreatDoor.Wrk
open Go Go.Proofs.YtbgcccfgcdkmdaaGreatDoor
/-- Where a time begins to count. -/
def stE (H : Hrs) (t : Int) : Int := if chk H ≠ 0 then chk H else if locE t ≠ 0 then locE t else if thereB (locD t) = true then 0 else 4
theorem stE_bad {H : Hrs} {t : Int} (h : chk H ≠ 0) : stE H t = chk H := if_pos h
theorem stE_loc {H : Hrs} {t : Int} (h : chk H = 0) (h2 : locE t ≠ 0) : stE H t = locE t := (if_neg (by rw [h]; decide)).trans (if_pos h2)
theorem stE_out {H : Hrs} {t : Int} (h : chk H = 0) (h2 : locE t = 0) (h3 : thereB (locD t) = false) : stE H t = 4 := (if_neg (by rw [h]; decide)).trans ((if_neg (by rw [h2]; decide)).trans (if_neg (by rw [h3]; decide)))
theorem stE_ok {H : Hrs} {t : Int} (h : chk H = 0) (h2 : locE t = 0) (h3 : thereB (locD t) = true) : stE H t = 0 := (if_neg (by rw [h]; decide)).trans ((if_neg (by rw [h2]; decide)).trans (if_pos h3))
/-- Seconds of a span of a day between two times. -/
def spS (a b d : Int) (p : Int × Int) : Int := max 0 (min b ((d * 1440 + p.2) * 60) - max a ((d * 1440 + p.1) * 60))
def daS (a b d : Int) (L : List (Int × Int)) : Nat → Int
  | 0 => 0
  | k + 1 => daS a b d L k + spS a b d (L.getD k (0, 0))
noncomputable def btS (H : Hrs) (a b d : Int) : Nat → Int
  | 0 => 0
  | k + 1 => btS H a b d k + daS a b (d + k) (dayL H (d + k)) (dayL H (d + k)).length
noncomputable def btR (H : Hrs) (a b : Int) : Int × Int :=
  if stE H a ≠ 0 then (0, stE H a) else if locE b ≠ 0 then (0, locE b) else if b < a then (0, 7) else if thereB (locD b) = false ∨ 4000 < locD b - locD a then (0, 4) else (btS H a b (locD a) (locD b - locD a + 1).toNat, 0)
/-- Good spans. -/
def SpOk (L : List (Int × Int)) : Prop := ∀ i, i < L.length → 0 ≤ (L.getD i (0, 0)).1 ∧ (L.getD i (0, 0)).1 < (L.getD i (0, 0)).2 ∧ (L.getD i (0, 0)).2 ≤ 1440 ∧ (0 < i → (L.getD (i - 1) (0, 0)).2 < (L.getD i (0, 0)).1)
theorem spOk_wk {L : List (Int × Int)} (h : wkE L = 0) : SpOk L := by
  have hf : frm (spAt L) L.length 0 = 0 := by
    unfold wkE at h
    split at h
    · cases h
    · exact h
  have hall : ∀ d j, j + d = L.length → frm (spAt L) L.length j = 0 → ∀ i, j ≤ i → i < L.length → spAt L i = 0 := by
    intro d
    induction d with
    | zero => intro j hj _ i h1 h2; omega
    | succ d ih =>
      intro j hj hf i h1 h2
      by_cases e : spAt L j = 0
      · rw [frm_go (by omega) e] at hf
        by_cases eij : i = j
        · rw [eij]; exact e
        · exact ih (j + 1) (by omega) hf i (by omega) h2
      · rw [frm_hit (by omega) e] at hf; exact absurd hf e
  intro i hi
  have hs := hall L.length 0 (by omega) hf i (Nat.zero_le _) hi
  unfold spAt at hs
  split at hs
  · cases hs
  · rename_i g
    split at hs
    · cases hs
    · rename_i g2
      refine ⟨by omega, by omega, by omega, fun h0 => ?_⟩
      rcases Int.lt_or_le (L.getD (i - 1) (0, 0)).2 (L.getD i (0, 0)).1 with g3 | g3
      · exact g3
      · exact absurd ⟨h0, g3⟩ g2
theorem spOk_day {H : Hrs} (h : chk H = 0) (t : Int) : SpOk (dayL H t) := by
  unfold dayL
  split
  · intro i hi; simp at hi
  · exact spOk_wk (chk_week0 h _ (by have := Dm.wd_bd t; omega))
theorem spS_bd {a b d : Int} {p : Int × Int} (h1 : 0 ≤ p.1) (h2 : p.2 ≤ 1440) : 0 ≤ spS a b d p ∧ spS a b d p ≤ 86400 := by
  unfold spS
  omega
theorem daS_bd {a b d : Int} {L : List (Int × Int)} (h : SpOk L) : ∀ k, k ≤ L.length → 0 ≤ daS a b d L k ∧ daS a b d L k ≤ 86400 * k
  | 0, _ => by simp [daS]
  | k + 1, hk => by
    have ih := daS_bd h (a := a) (b := b) (d := d) k (by omega)
    have g := h k (by omega)
    have := spS_bd (a := a) (b := b) (d := d) g.1 g.2.2.1
    rw [daS]
    omega
theorem btS_bd {H : Hrs} (h : chk H = 0) {a b d : Int} : ∀ k, 0 ≤ btS H a b d k ∧ btS H a b d k ≤ 5184000 * k
  | 0 => by simp [btS]
  | k + 1 => by
    have ih := btS_bd h (a := a) (b := b) (d := d) k
    have g := daS_bd (spOk_day h (d + k)) (a := a) (b := b) (d := d + k) _ (Nat.le_refl _)
    have := dayL_len h (d + k)
    rw [btS]
    omega
end Go.Proofs.YtbgcccfgcdkmdaaGreatDoor.Wrk
namespace Go.Proofs.YtbgcccfgcdkmdaaGreatDoor
open Go.RowKit Wrk
set_option maxRecDepth 100000 in
set_option maxHeartbeats 8000000 in
theorem start_bad (B : Nat) (H : Hrs) (s : Nat → Value) (vh : Value) (t : Int) (w : World) (hr : RomanT w) (hR : HrsR B w s vh H) (hB : B ≤ w.heap.size) (hE : stE H t ≠ 0) : Calls Tryz.prog 45 #[hoursV s vh, .int .i64 t] w fun e w' => e = .returned (.tuple #[.pointer none, .int .i64 0, errV (stE H t)]) ∧ Below w.heap.size w w' := by
  obtain ⟨wB, hwB, ⟨hb0, hlt⟩, f0, f1, f2, f3, f4, f5, f6, f7⟩ := hours_cells s vh w
  have HB0 := Lib.hid hb0
  have HLT := Lib.hid hlt
  have HRB := Lib.hid (RomanT.call hr hb0)
  have HHB := Lib.hid (hR.call (hb0.mono hB))
  have HBB := Lib.hid (Nat.le_trans hB hb0.size)
  by_cases hc : chk H = 0
  · have CN := Lib.hid (newDesk_any B H s vh wB HRB.out HHB.out HBB.out hc)
    have CS := Lib.hid (fun w0 => split_all t w0)
    unfold hoursV at CN
    unfold hoursV
    by_cases hl : locE t = 0
    · cases ht : thereB (locD t) with
      | true => exact absurd (stE_ok hc hl ht) hE
      | false =>
        have HE := Lib.hid (stE_out hc hl ht)
        have CT := Lib.hid (fun w0 h => deskThere_any (locD t) w0 h)
        rw [ht] at CT
        rw [hl, errV_nil] at CS
        obtain ⟨D, hD⟩ : ∃ D, locD t = D := ⟨_, rfl⟩
        obtain ⟨SS, hS⟩ : ∃ SS, locS t = SS := ⟨_, rfl⟩
        rw [hD] at CT
        rw [hD, hS] at CS
        clear ht hl hb0 hlt hr hR hB hc hE hD hS
        go_enter Tryz.func45, Tryz.ntmps45
        go_wp2_with (first
          | (go_at_call 56; refine (CN.out).mono ?_; rintro e w2 ⟨q, m, rfl, hd, hb2⟩; have HD := Lib.hid hd; have HB2 := Lib.hid hb2; clear hd hb2)
          | (go_at_call 46; refine (CS.out _).mono ?_; rintro e w3 ⟨rfl, rfl⟩)
          | (go_at_call 47; refine (CT.out _ HD.out.rom).mono ?_; rintro e w4 ⟨rfl, hb4⟩; have HB4 := Lib.hid (thenB HB2.out hb4); clear hb4))
        go_ret3
        exact ⟨by rw [HE.out, errV_hit (by decide)]; rfl, thenB HB0.out HB4.out⟩
    · have HE := Lib.hid (stE_loc hc hl)
      have HI := Lib.hid (errV_hit hl)
      rw [HI.out] at CS
      obtain ⟨D, hD⟩ : ∃ D, locD t = D := ⟨_, rfl⟩
      obtain ⟨SS, hS⟩ : ∃ SS, locS t = SS := ⟨_, rfl⟩
      obtain ⟨EE, hEE⟩ : ∃ EE, locE t = EE := ⟨_, rfl⟩
      rw [hD, hS, hEE] at CS
      rw [hEE] at HE HI
      clear hl hb0 hlt hr hR hB hc hE hD hS hEE
      go_enter Tryz.func45, Tryz.ntmps45
      go_wp2_with (first
        | (go_at_call 56; refine (CN.out).mono ?_; rintro e w2 ⟨q, m, rfl, hd, hb2⟩; have HB2 := Lib.hid hb2; clear hd hb2)
        | (go_at_call 46; refine (CS.out _).mono ?_; rintro e w3 ⟨rfl, rfl⟩))
      go_ret3
      exact ⟨by rw [HE.out, HI.out]; rfl, thenB HB0.out HB2.out⟩
  · have CN := Lib.hid (newDesk_bad B H s vh wB HRB.out HHB.out HBB.out hc)
    have HE := Lib.hid (stE_bad (t := t) hc)
    unfold hoursV at CN
    unfold hoursV
    have HI := Lib.hid (errV_hit hc)
    rw [HI.out] at CN
    obtain ⟨E, hEE⟩ : ∃ E, chk H = E := ⟨_, rfl⟩
    rw [hEE] at CN HE HI
    clear hb0 hlt hr hR hB hc hE hEE
    go_enter Tryz.func45, Tryz.ntmps45
    go_wp2_with (go_at_call 56; refine (CN.out).mono ?_; rintro e w2 ⟨rfl, hb2⟩; have HB2 := Lib.hid hb2; clear hb2)
    go_ret3
    exact ⟨by rw [HE.out, HI.out]; rfl, thenB HB0.out HB2.out⟩
theorem stE_zero {H : Hrs} {t : Int} (h : stE H t = 0) : chk H = 0 ∧ locE t = 0 ∧ thereB (locD t) = true := by
  by_cases hc : chk H = 0
  · by_cases hl : locE t = 0
    · cases ht : thereB (locD t) with
      | true => exact ⟨hc, hl, rfl⟩
      | false => rw [stE_out hc hl ht] at h; cases h
    · rw [stE_loc hc hl] at h; exact absurd h hl
  · rw [stE_bad hc] at h; exact absurd h hc
set_option maxRecDepth 100000 in
set_option maxHeartbeats 8000000 in
theorem start_any (B : Nat) (H : Hrs) (s : Nat → Value) (vh : Value) (t : Int) (w : World) (hr : RomanT w) (hR : HrsR B w s vh H) (hB : B ≤ w.heap.size) (hE : stE H t = 0) : Calls Tryz.prog 45 #[hoursV s vh, .int .i64 t] w fun e w' => ∃ q m, e = .returned (.tuple #[.pointer (some ⟨q, 0, none⟩), .int .i64 (locD t), .nilIface]) ∧ DeskR B H s vh w.heap.size w' q m 0 (fun _ => none) ∧ Below w.heap.size w w' := by
  obtain ⟨hc, hl, ht⟩ := stE_zero hE
  obtain ⟨wB, hwB, ⟨hb0, hlt⟩, f0, f1, f2, f3, f4, f5, f6, f7⟩ := hours_cells s vh w
  have HB0 := Lib.hid hb0
  have HLT := Lib.hid hlt
  have HRB := Lib.hid (RomanT.call hr hb0)
  have HHB := Lib.hid (hR.call (hb0.mono hB))
  have HBB := Lib.hid (Nat.le_trans hB hb0.size)
  have CN := Lib.hid (newDesk_any B H s vh wB HRB.out HHB.out HBB.out hc)
  have CS := Lib.hid (fun w0 => split_all t w0)
  unfold hoursV at CN
  unfold hoursV
  have CT := Lib.hid (fun w0 h => deskThere_any (locD t) w0 h)
  rw [ht] at CT
  rw [hl, errV_nil] at CS
  obtain ⟨D, hD⟩ : ∃ D, locD t = D := ⟨_, rfl⟩
  obtain ⟨SS, hS⟩ : ∃ SS, locS t = SS := ⟨_, rfl⟩
  rw [hD] at CT ⊢
  rw [hD, hS] at CS
  have HLOW : Hid (∀ w' q m, DeskR B H s vh wB.heap.size w' q m 0 (fun _ => none) → DeskR B H s vh w.heap.size w' q m 0 (fun _ => none)) := Lib.hid fun w' q m h => ⟨h.hrs, h.rom, hB, hr.lt, Nat.le_trans hb0.size h.qb, Nat.le_trans hb0.size h.mb, h.qm, h.ql, h.cells, h.c7, h.c8, h.map, fun y v hv => by cases hv⟩
  clear ht hl hb0 hlt hr hR hB hc hE hD hS
  go_enter Tryz.func45, Tryz.ntmps45
  go_wp2_with (first
    | (go_at_call 56; refine (CN.out).mono ?_; rintro e w2 ⟨q, m, rfl, hd, hb2⟩; have HD := Lib.hid hd; have HB2 := Lib.hid hb2; clear hd hb2)
    | (go_at_call 46; refine (CS.out _).mono ?_; rintro e w3 ⟨rfl, rfl⟩)
    | (go_at_call 47; refine (CT.out _ HD.out.rom).mono ?_; rintro e w4 ⟨rfl, hb4⟩; have HD4 := Lib.hid (HD.out.call hb4); have HB4 := Lib.hid (thenB HB2.out hb4); clear hb4))
  go_ret3
  exact ⟨q, m, rfl, HLOW.out _ _ _ HD4.out, thenB HB0.out HB4.out⟩
end Go.Proofs.YtbgcccfgcdkmdaaGreatDoor
namespace Go.Proofs.YtbgcccfgcdkmdaaGreatDoor
open Go.RowKit Wrk
def BtPost (H : Hrs) (a b : Int) (er : Int → Value) (w : World) (e : Ending) (w' : World) : Prop := e = .returned (.tuple #[.int .i64 (btR H a b).1, er (btR H a b).2]) ∧ Below w.heap.size w w'
theorem btR_st {H : Hrs} {a b : Int} (h : stE H a ≠ 0) : btR H a b = (0, stE H a) := if_pos h
theorem btR_loc {H : Hrs} {a b : Int} (h : stE H a = 0) (h2 : locE b ≠ 0) : btR H a b = (0, locE b) := by unfold btR; rw [if_neg (by rw [h]; decide), if_pos h2]
theorem btR_order {H : Hrs} {a b : Int} (h : stE H a = 0) (h2 : locE b = 0) (h3 : b < a) : btR H a b = (0, 7) := by unfold btR; rw [if_neg (by rw [h]; decide), if_neg (by rw [h2]; decide), if_pos h3]
theorem btR_out {H : Hrs} {a b : Int} (h : stE H a = 0) (h2 : locE b = 0) (h3 : ¬ b < a) (h4 : thereB (locD b) = false ∨ 4000 < locD b - locD a) : btR H a b = (0, 4) := by unfold btR; rw [if_neg (by rw [h]; decide), if_neg (by rw [h2]; decide), if_neg h3, if_pos h4]
theorem btR_in {H : Hrs} {a b : Int} (h : stE H a = 0) (h2 : locE b = 0) (h3 : ¬ b < a) (h4 : thereB (locD b) = true) (h5 : ¬ 4000 < locD b - locD a) : btR H a b = (btS H a b (locD a) (locD b - locD a + 1).toNat, 0) := by
  unfold btR
  rw [if_neg (by rw [h]; decide), if_neg (by rw [h2]; decide), if_neg h3, if_neg (by rw [h4]; simp; omega)]
theorem loc_zero {t : Int} (h : locE t = 0) : -345600000000 ≤ t ∧ t ≤ 345600086399 ∧ locD t = t / 86400 := by
  rcases loc_ways t with g | ⟨g1, g2⟩
  · rw [(loc_out g).1] at h; cases h
  · exact ⟨g1, g2, (loc_in g1 g2).2.1⟩
theorem le_trans_div {a b D C : Int} (h1 : D = a / 86400) (h2 : C = b / 86400) (h : a ≤ b) : D ≤ C := by omega
theorem loc_day {b C : Int} (h : locE b = 0) (h2 : locD b = C) : C = b / 86400 := h2.symm.trans (loc_zero h).2.2
set_option maxRecDepth 100000 in
set_option maxHeartbeats 16000000 in
theorem workBetween_any (B : Nat) (H : Hrs) (s : Nat → Value) (vh : Value) (a b : Int) (w : World) (hr : RomanT w) (hR : HrsR B w s vh H) (hB : B ≤ w.heap.size) : Calls Tryz.prog 30 #[hoursV s vh, .int .i64 a, .int .i64 b] w (BtPost H a b errV w) := by
  obtain ⟨wB, hwB, ⟨hb0, hlt⟩, f0, f1, f2, f3, f4, f5, f6, f7⟩ := hours_cells s vh w
  have HB0 := Lib.hid hb0
  have HLT := Lib.hid hlt
  have HRB := Lib.hid (RomanT.call hr hb0)
  have HHB := Lib.hid (hR.call (hb0.mono hB))
  have HBB := Lib.hid (Nat.le_trans hB hb0.size)
  unfold BtPost
  by_cases hE : stE H a = 0
  · have CST := Lib.hid (start_any B H s vh a wB HRB.out HHB.out HBB.out hE)
    have CS := Lib.hid (fun w0 => split_all b w0)
    obtain ⟨hc, hla, hta⟩ := stE_zero hE
    obtain ⟨la1, la2, la3⟩ := loc_zero hla
    obtain ⟨D, hD⟩ : ∃ D, locD a = D := ⟨_, rfl⟩
    obtain ⟨C, hC⟩ : ∃ C, locD b = C := ⟨_, rfl⟩
    rw [hD] at la3 hta CST
    rw [hC] at CS
    have HDD0 := Lib.hid hD
    have HCC0 := Lib.hid hC
    have LA3 := Lib.hid la3
    clear hD hC la3
    unfold hoursV at CST
    unfold hoursV
    by_cases hl : locE b = 0
    · obtain ⟨lb1, lb2, lb3⟩ := loc_zero hl
      have LB4 := Lib.hid (loc_day hl HCC0.out)
      clear lb3
      rw [hl, errV_nil] at CS
      by_cases hab : b < a
      · have HE := Lib.hid (btR_order hE hl hab)
        clear hE hl hla hta hc hb0 hlt hr hR hB
        go_enter Tryz.func30, Tryz.ntmps30
        go_wp2_with (first | (go_at_call 45; refine (CST.out).mono ?_; rintro e w2 ⟨q, m, rfl, hd, hb2⟩; have HD := Lib.hid hd; have HB2 := Lib.hid hb2; clear hd hb2) | (go_at_call 46; refine (CS.out _).mono ?_; rintro e w3 ⟨rfl, rfl⟩))
        go_ret2
        exact ⟨by rw [HE.out, errV_hit (by decide)]; rfl, thenB HB0.out HB2.out⟩
      · have dab : decide (b < a) = false := decide_eq_false hab
        have CT := Lib.hid (fun w0 h => deskThere_any C w0 h)
        cases ht : thereB C with
        | false =>
          have HE := Lib.hid (btR_out hE hl hab (.inl (by rw [HCC0.out]; exact ht)))
          rw [ht] at CT
          clear ht hE hl hla hta hc hb0 hlt hr hR hB hab
          go_enter Tryz.func30, Tryz.ntmps30
          go_wp2_with (first | (go_at_call 45; refine (CST.out).mono ?_; rintro e w2 ⟨q, m, rfl, hd, hb2⟩; have HD := Lib.hid hd; have HB2 := Lib.hid hb2; clear hd hb2) | (go_at_call 46; refine (CS.out _).mono ?_; rintro e w3 ⟨rfl, rfl⟩) | (go_at_call 47; refine (CT.out _ HD.out.rom).mono ?_; rintro e w4 ⟨rfl, hb4⟩; have HD4 := Lib.hid (HD.out.call hb4); have HB4 := Lib.hid (thenB HB2.out hb4); clear hb4))
          go_ret2
          exact ⟨by rw [HE.out, errV_hit (by decide)]; rfl, thenB HB0.out HB4.out⟩
        | true =>
          have tb1 := there_bd ht
          have tb2 := there_bd hta
          have hDC : D ≤ C := le_trans_div LA3.out LB4.out (Int.not_lt.1 hab)
          have w1 : wrap64 (C - D) = C - D := wrap_in (InI.mk (by omega) (by omega))
          by_cases hf : 4000 < C - D
          · have HE := Lib.hid (btR_out hE hl hab (.inr (by rw [HCC0.out, HDD0.out]; exact hf)))
            rw [ht] at CT
            clear ht hE hl hla hta hc hb0 hlt hr hR hB hab
            go_enter Tryz.func30, Tryz.ntmps30
            go_wp2_with (first | (go_at_call 45; refine (CST.out).mono ?_; rintro e w2 ⟨q, m, rfl, hd, hb2⟩; have HD := Lib.hid hd; have HB2 := Lib.hid hb2; clear hd hb2) | (go_at_call 46; refine (CS.out _).mono ?_; rintro e w3 ⟨rfl, rfl⟩) | (go_at_call 47; refine (CT.out _ HD.out.rom).mono ?_; rintro e w4 ⟨rfl, hb4⟩; have HD4 := Lib.hid (HD.out.call hb4); have HB4 := Lib.hid (thenB HB2.out hb4); clear hb4))
            go_ret2
            exact ⟨by rw [HE.out, errV_hit (by decide)]; rfl, thenB HB0.out HB4.out⟩
          · have HE : Hid (btR H a b = (btS H a b D (C - D + 1).toNat, 0)) := Lib.hid (by
              have h := btR_in hE hl hab (by rw [HCC0.out]; exact ht) (by rw [HCC0.out, HDD0.out]; exact hf)
              rwa [HCC0.out, HDD0.out] at h)
            have df : decide (4000 < C - D) = false := decide_eq_false hf
            have HWT : Hid (∀ t, D ≤ t → t ≤ C → thereB t = true) := Lib.hid fun t h1 h2 => thereB_true.2 (by
              have g1 := thereB_true.1 hta
              have g2 := thereB_true.1 ht
              unfold There at *
              omega)
            have CY := Lib.hid (fun q m tt n1 f1 w0 (hD : DeskR B H s vh wB.heap.size w0 q m n1 f1) (h1 : thereB tt = true) (h2 : n1 ≤ 900000) => day_any hD hc tt (thereB_true.1 h1) h2)
            have HSB := Lib.hid (fun d k => btS_bd hc (a := a) (b := b) (d := d) k)
            have HDB := Lib.hid (fun t => And.intro (spOk_day hc t) (dayL_len hc t))
            rw [ht] at CT
            unfold DayPost at CY
            obtain ⟨SS, hS⟩ : ∃ SS, locS b = SS := ⟨_, rfl⟩
            rw [hS] at CS
            have hCD : C - D ≤ 4000 := by omega
            clear ht hE hl hla hta hc hb0 hlt hr hR hB hab hS hf
            go_enter Tryz.func30, Tryz.ntmps30
            go_wp2_with (first | (go_at_call 45; refine (CST.out).mono ?_; rintro e w2 ⟨q, m, rfl, hd, hb2⟩; have HD := Lib.hid hd; have HB2 := Lib.hid hb2; clear hd hb2) | (go_at_call 46; refine (CS.out _).mono ?_; rintro e w3 ⟨rfl, rfl⟩) | (go_at_call 47; refine (CT.out _ HD.out.rom).mono ?_; rintro e w4 ⟨rfl, hb4⟩; have HD4 := Lib.hid (HD.out.call hb4); have HB4 := Lib.hid (thenB HB2.out hb4); clear hb4))
            clear w1 df dab f0 f1 f2 f3 f4 f5 f6 f7 hwB
            go_loopw [13, 14] (fun v c wr => ∃ (N1 : Int) (i n' : Nat) (f' : Int → Option Value), v = .int .i64 N1 ∧ c = .int .i64 (D + i) ∧ D + i ≤ C + 1 ∧ n' ≤ 3 * i ∧ Hid (N1 = btS H a b D i) ∧ Hid (DeskR B H s vh wB.heap.size wr q m n' f') ∧ Hid (Below wB.heap.size wB wr)) (fun _ c _ => (C + 1 - intOf c).toNat)
            case atStart => exact ⟨0, 0, _, _, rfl, by simp, by omega, Nat.zero_le _, Lib.hid rfl, HD4, HB4⟩
            case round =>
              obtain ⟨N1, i, n', f', rfl, rfl, hi, hn', HN, HDk, HBk⟩ := hrel
              by_cases hik : D + i ≤ C
              · have HTT := Lib.hid (HWT.out (D + i) (by omega) hik)
                have CYn := Lib.hid (fun w0 h => CY.out q m (D + i) n' f' w0 h HTT.out (by omega))
                have hnb := HSB.out D i
                rw [← HN.out] at hnb
                have hst : Hid (btS H a b D (i + 1) = btS H a b D i + daS a b (D + i) (dayL H (D + i)) (dayL H (D + i)).length) := Lib.hid rfl
                obtain ⟨hok, hlen⟩ := HDB.out (D + i)
                obtain ⟨dd, hdd⟩ : ∃ dd, D + (i : Int) = dd := ⟨_, rfl⟩
                obtain ⟨LL, hLL⟩ : ∃ LL, dayL H (D + i) = LL := ⟨_, rfl⟩
                have HLL := Lib.hid hLL
                rw [hLL] at hst hok hlen
                rw [hdd] at hst HTT CYn hik HLL ⊢
                have hddb : -800000 ≤ dd ∧ dd ≤ 3000000 := by omega
                obtain ⟨LN, hLN⟩ : ∃ LN, LL.length = LN := ⟨_, rfl⟩
                have HLN := Lib.hid hLN
                rw [hLN] at hst hlen
                have HOK := Lib.hid hok
                have HDD := Lib.hid hdd
                clear hLL hLN hok hdd
                go_wp2_with (go_at_call 48; refine (CYn.out _ HDk.out).mono ?_; rintro e w5 ⟨n5, f5', rfl, hd5, hn5, hg5⟩; have HD5 := Lib.hid hd5; have HB5 := Lib.hid (HBk.out.grown hg5 HBk.out.size (fun k hk => by cases hk; exact hd5.mb)); have hvs := dayV_sp hd5.hrs dd; rw [HLL.out] at hvs; obtain ⟨oa, cap, hv⟩ := hvs.form; rw [HLN.out] at hv; rw [hv] at hvs ⊢; have HVS := Lib.hid hvs; clear hd5 hg5 hv hvs)
                go_loopw [13, 63] (fun v c wz => ∃ (N2 : Int) (k : Nat), v = .int .i64 N2 ∧ c = .int .i64 (k : Int) ∧ k ≤ LN ∧ Hid (N2 = N1 + daS a b dd LL k) ∧ Hid (Below w5.heap.size w5 wz)) (fun _ c _ => LN - (intOf c).toNat)
                case atStart => exact ⟨N1, 0, rfl, by simp, by omega, Lib.hid (by simp [daS]), Lib.hid (Below.refl _ _)⟩
                case round =>
                  obtain ⟨N2, k, rfl, rfl, hk, HN2, HBz⟩ := hrel
                  by_cases hkl : k < LN
                  · have hBw : B ≤ w5.heap.size := Nat.le_trans HBB.out HB5.out.size
                    obtain ⟨g, rfl, hgb, p1, p2⟩ := (HVS.out.call (HBz.out.mono hBw)).at (show k < LL.length by rw [HLN.out]; exact hkl)
                    obtain ⟨s1, s2, s3, -⟩ := HOK.out k (by rw [HLN.out]; exact hkl)
                    have hdb := daS_bd HOK.out (a := a) (b := b) (d := dd) k (by rw [HLN.out]; exact hk)
                    have hN2 := HN2.out
                    have hstep : Hid (N1 + daS a b dd LL (k + 1) = N1 + daS a b dd LL k + spS a b dd (LL.getD k (0, 0))) := Lib.hid (by rw [daS]; omega)
                    obtain ⟨⟨F, G⟩, hFG⟩ : ∃ p : Int × Int, LL.getD k (0, 0) = p := ⟨_, rfl⟩
                    rw [hFG] at p1 p2 s1 s2 s3 hstep
                    simp only at p1 p2 s1 s2 s3
                    have hN2b : 0 ≤ N2 ∧ N2 ≤ 100000000000 := by omega
                    have k1 : (k : Int) < (LN : Int) := by omega
                    have k2 : (0 : Int) ≤ (k : Int) := by omega
                    clear hFG hN2 hdb hgb
                    go_upto_region 18 with fail
                    obtain ⟨wA, hwA⟩ : ∃ W, wr.alloc (.cells #[.int .i64 F, .int .i64 G] 47) = W := ⟨_, rfl⟩
                    have hA : Below wr.heap.size wr wA := by rw [← hwA]; exact (Below.refl _ _).alloc (Nat.le_refl _) _
                    have HBA := Lib.hid (thenB HBz.out hA)
                    obtain ⟨z16, hz16⟩ : ∃ z, wr.heap.size = z := ⟨_, rfl⟩
                    have r0 : wA.cell? ⟨z16, 0, none⟩ = some (.int .i64 F) := by rw [← hwA, ← hz16]; simp
                    have r1 : wA.cell? ⟨z16, 1, none⟩ = some (.int .i64 G) := by rw [← hwA, ← hz16]; simp
                    simp only [hwA, hz16]
                    have e1 : wrap64 (dd * 1440) = dd * 1440 := wrap_in (InI.mk (by omega) (by omega))
                    have e2 : wrap64 (dd * 1440 + G) = dd * 1440 + G := wrap_in (InI.mk (by omega) (by omega))
                    have e3 : wrap64 ((dd * 1440 + G) * 60) = (dd * 1440 + G) * 60 := wrap_in (InI.mk (by omega) (by omega))
                    have e4 : wrap64 (dd * 1440 + F) = dd * 1440 + F := wrap_in (InI.mk (by omega) (by omega))
                    have e5 : wrap64 ((dd * 1440 + F) * 60) = (dd * 1440 + F) * 60 := wrap_in (InI.mk (by omega) (by omega))
                    clear hA hwA hz16 p1 p2
                    have HN3 : Hid (N2 + max 0 (min b ((dd * 1440 + G) * 60) - max a ((dd * 1440 + F) * 60)) = N1 + daS a b dd LL (k + 1)) := Lib.hid (by
                      have h1 := hstep.out
                      have h2 := HN2.out
                      unfold spS at h1
                      simp only at h1
                      omega)
                    go_wp2_with fail
                    clear e1 e2 e3 e4 e5 r0 r1
                    go_roundw
                    case rel => exact ⟨_, k + 1, rfl, by go_num, by omega, HN3, HBA⟩
                    case measure => simp [intOf]; omega
                  · have hkn : k = LN := by omega
                    subst hkn
                    have HN4 : Hid (N2 = btS H a b D (i + 1)) := Lib.hid (by rw [hst.out, HN2.out, HN.out])
                    have HB6 := Lib.hid (thenB HB5.out HBz.out)
                    have HD6 := Lib.hid (HD5.out.call HBz.out)
                    have a5 : wrap64 (dd + 1) = dd + 1 := wrap_in (InI.mk (by omega) (by omega))
                    have HDD2 := Lib.hid (show D + ((i + 1 : Nat) : Int) = dd + 1 by have := HDD.out; omega)
                    go_wp2_with fail
                    clear a5
                    go_roundw
                    case rel => first | exact ⟨N2, i + 1, n5, f5', rfl, by rw [HDD2.out], by rw [HDD2.out]; omega, by omega, HN4, HD6, HB6⟩ | ((repeat apply Exists.intro); exact ⟨⟨rfl, by rw [HDD2.out], by rw [HDD2.out]; omega, by omega, HN4, HD6, HB6⟩, rfl⟩)
                    case measure => simp [intOf]; omega
              · have e : C - D + 1 = (i : Int) := by omega
                have HN2 : Hid (btR H a b = (N1, 0)) := Lib.hid (by rw [HE.out, e, Int.toNat_natCast, HN.out])
                clear e
                have k1 : ¬ D + (i : Int) ≤ C := hik
                go_wp2_with fail
                go_ret2
                exact ⟨by rw [HN2.out, errV_nil]; rfl, thenB HB0.out HBk.out⟩
    · have HE := Lib.hid (btR_loc hE hl)
      have HI := Lib.hid (errV_hit hl)
      rw [HI.out] at CS
      obtain ⟨SS, hS⟩ : ∃ SS, locS b = SS := ⟨_, rfl⟩
      obtain ⟨EE, hEE⟩ : ∃ EE, locE b = EE := ⟨_, rfl⟩
      rw [hS, hEE] at CS
      rw [hEE] at HE HI
      clear hl hE hla hta hc hb0 hlt hr hR hB hS hEE
      go_enter Tryz.func30, Tryz.ntmps30
      go_wp2_with (first | (go_at_call 45; refine (CST.out).mono ?_; rintro e w2 ⟨q, m, rfl, hd, hb2⟩; have HD := Lib.hid hd; have HB2 := Lib.hid hb2; clear hd hb2) | (go_at_call 46; refine (CS.out _).mono ?_; rintro e w3 ⟨rfl, rfl⟩))
      go_ret2
      exact ⟨by rw [HE.out, HI.out]; rfl, thenB HB0.out HB2.out⟩
  · have CST := Lib.hid (start_bad B H s vh a wB HRB.out HHB.out HBB.out hE)
    have HE := Lib.hid (btR_st (b := b) hE)
    have HI := Lib.hid (errV_hit hE)
    rw [HI.out] at CST
    obtain ⟨EE, hEE⟩ : ∃ EE, stE H a = EE := ⟨_, rfl⟩
    rw [hEE] at CST HE HI
    unfold hoursV at CST
    unfold hoursV
    clear hE hEE hb0 hlt hr hR hB
    go_enter Tryz.func30, Tryz.ntmps30
    go_wp2_with (go_at_call 45; refine (CST.out).mono ?_; rintro e w2 ⟨rfl, hb2⟩; have HB2 := Lib.hid hb2; clear hb2)
    go_ret2
    exact ⟨by rw [HE.out, HI.out]; rfl, thenB HB0.out HB2.out⟩
set_option maxRecDepth 100000 in
set_option maxHeartbeats 8000000 in
theorem plainBetween_any (B : Nat) (H : Hrs) (s : Nat → Value) (vh : Value) (a b : Int) (w : World) (hT : ErrT w) (hr : RomanT w) (hR : HrsR B w s vh H) (hB : B ≤ w.heap.size) : Calls Tryz.prog 13 #[hoursV s vh, .int .i64 a, .int .i64 b] w (BtPost H a b (Value.int .i64) w) := by
  obtain ⟨wB, hwB, ⟨hb0, hlt⟩, f0, f1, f2, f3, f4, f5, f6, f7⟩ := hours_cells s vh w
  have HB0 := Lib.hid hb0
  have HLT := Lib.hid hlt
  have CC := Lib.hid (workBetween_any B H s vh a b wB (RomanT.call hr hb0) (hR.call (hb0.mono hB)) (Nat.le_trans hB hb0.size))
  have HT := Lib.hid (hT.call hb0)
  unfold hoursV at CC
  unfold hoursV
  unfold BtPost at CC ⊢
  clear hb0 hlt hr hR hB hT
  go_enter Tryz.func13, Tryz.ntmps13
  go_wp2_with (first
    | (go_at_call 30; refine (CC.out).mono ?_; rintro e w2 ⟨rfl, hb2⟩; have HB2 := Lib.hid hb2; have HT2 := Lib.hid (HT.out.call hb2); clear hb2)
    | (go_at_call 26; refine (tell_any _ _ HT2.out).mono ?_; rintro e w3 ⟨rfl, hb3⟩; have HB3 := Lib.hid hb3; clear hb3))
  go_ret2
  exact ⟨rfl, thenB HB0.out (thenB HB2.out HB3.out)⟩
end Go.Proofs.YtbgcccfgcdkmdaaGreatDoor
namespace Go.Proofs.YtbgcccfgcdkmdaaGreatDoor.Wrk
open Go Go.Proofs.YtbgcccfgcdkmdaaGreatDoor
/-- So much work within a day: where it ends, or what is left. -/
def aftD (a d : Int) : List (Int × Int) → Int → Option Int × Int
  | [], n => (none, n)
  | p :: r, n => if n ≤ (d * 1440 + p.2) * 60 - max a ((d * 1440 + p.1) * 60) then (some (max a ((d * 1440 + p.1) * 60) + n), 0) else aftD a d r (n - max 0 ((d * 1440 + p.2) * 60 - max a ((d * 1440 + p.1) * 60)))
noncomputable def aftS (H : Hrs) (a : Int) : Nat → Int → Int → Int × Int
  | 0, _, _ => (0, 12)
  | f + 1, d, n => if thereB d = true then (match aftD a d (dayL H d) n with | (some t, _) => (t, 0) | (none, n') => aftS H a f (d + 1) n') else (0, 4)
noncomputable def aftR (H : Hrs) (a n : Int) : Int × Int :=
  if stE H a ≠ 0 then (0, stE H a) else if n < 0 then (0, 1) else if n = 0 then (a, 0) else aftS H a 4001 (locD a) n
theorem aftS_out {H : Hrs} {a d n : Int} {f : Nat} (h : thereB d = false) : aftS H a (f + 1) d n = (0, 4) := by rw [aftS, if_neg (by rw [h]; decide)]
theorem aftS_hit {H : Hrs} {a d n t x : Int} {f : Nat} (h : thereB d = true) (h2 : aftD a d (dayL H d) n = (some t, x)) : aftS H a (f + 1) d n = (t, 0) := by rw [aftS, if_pos h, h2]
theorem aftS_next {H : Hrs} {a d n n' : Int} {f : Nat} (h : thereB d = true) (h2 : aftD a d (dayL H d) n = (none, n')) : aftS H a (f + 1) d n = aftS H a f (d + 1) n' := by rw [aftS, if_pos h, h2]
theorem aftD_at {a d n : Int} {L : List (Int × Int)} {k : Nat} (hk : k < L.length) : aftD a d (L.drop k) n = if n ≤ (d * 1440 + (L.getD k (0, 0)).2) * 60 - max a ((d * 1440 + (L.getD k (0, 0)).1) * 60) then (some (max a ((d * 1440 + (L.getD k (0, 0)).1) * 60) + n), 0) else aftD a d (L.drop (k + 1)) (n - max 0 ((d * 1440 + (L.getD k (0, 0)).2) * 60 - max a ((d * 1440 + (L.getD k (0, 0)).1) * 60))) := by
  rw [List.drop_eq_getElem_cons hk, aftD, List.getD_eq_getElem?_getD, List.getElem?_eq_getElem hk]
  rfl
end Go.Proofs.YtbgcccfgcdkmdaaGreatDoor.Wrk
namespace Go.Proofs.YtbgcccfgcdkmdaaGreatDoor
open Go.RowKit Wrk
def AftPost (H : Hrs) (a n : Int) (er : Int → Value) (w : World) (e : Ending) (w' : World) : Prop := e = .returned (.tuple #[.int .i64 (aftR H a n).1, er (aftR H a n).2]) ∧ Below w.heap.size w w'
set_option maxRecDepth 100000 in
set_option maxHeartbeats 16000000 in
theorem workAfter_any (B : Nat) (H : Hrs) (s : Nat → Value) (vh : Value) (a n : Int) (w : World) (hr : RomanT w) (hR : HrsR B w s vh H) (hB : B ≤ w.heap.size) (hni : InI n) : Calls Tryz.prog 34 #[hoursV s vh, .int .i64 a, .int .i64 n] w (AftPost H a n errV w) := by
  obtain ⟨wB, hwB, ⟨hb0, hlt⟩, f0, f1, f2, f3, f4, f5, f6, f7⟩ := hours_cells s vh w
  have HB0 := Lib.hid hb0
  have HLT := Lib.hid hlt
  have HRB := Lib.hid (RomanT.call hr hb0)
  have HHB := Lib.hid (hR.call (hb0.mono hB))
  have HBB := Lib.hid (Nat.le_trans hB hb0.size)
  unfold AftPost
  by_cases hE : stE H a = 0
  · have CST := Lib.hid (start_any B H s vh a wB HRB.out HHB.out HBB.out hE)
    obtain ⟨hc, hla, hta⟩ := stE_zero hE
    obtain ⟨la1, la2, la3⟩ := loc_zero hla
    obtain ⟨D, hD⟩ : ∃ D, locD a = D := ⟨_, rfl⟩
    rw [hD] at hta CST
    unfold hoursV at CST
    unfold hoursV
    by_cases hn0 : n < 0
    · have HE : Hid (aftR H a n = (0, 1)) := Lib.hid (by unfold aftR; rw [if_neg (by rw [hE]; decide), if_pos hn0])
      clear hE hla hta hc hb0 hlt hr hR hB la3 hD
      go_enter Tryz.func34, Tryz.ntmps34
      go_wp2_with (first | (go_at_call 45; refine (CST.out).mono ?_; rintro e w2 ⟨q, m, rfl, hd, hb2⟩; have HD := Lib.hid hd; have HB2 := Lib.hid hb2; clear hd hb2))
      go_ret2
      exact ⟨by rw [HE.out, errV_hit (by decide)]; rfl, thenB HB0.out HB2.out⟩
    · have dn : decide (n < 0) = false := decide_eq_false hn0
      by_cases hz : n = 0
      · have HE : Hid (aftR H a n = (a, 0)) := Lib.hid (by unfold aftR; rw [if_neg (by rw [hE]; decide), if_neg hn0, if_pos hz])
        subst hz
        clear hE hla hta hc hb0 hlt hr hR hB la3 hD dn
        go_enter Tryz.func34, Tryz.ntmps34
        go_wp2_with (first | (go_at_call 45; refine (CST.out).mono ?_; rintro e w2 ⟨q, m, rfl, hd, hb2⟩; have HD := Lib.hid hd; have HB2 := Lib.hid hb2; clear hd hb2))
        go_ret2
        exact ⟨by rw [HE.out, errV_nil]; rfl, thenB HB0.out HB2.out⟩
      · have HE : Hid (aftR H a n = aftS H a 4001 D n) := Lib.hid (by unfold aftR; rw [if_neg (by rw [hE]; decide), if_neg hn0, if_neg hz, hD])
        have bz : (n == 0) = false := by simpa using hz
        have tb2 := there_bd hta
        have HNI := Lib.hid hni.2
        have hn1 : 1 ≤ n := by omega
        have CT := Lib.hid (fun tt w0 h => deskThere_any tt w0 h)
        have HW : Hid (∀ tt, thereB tt = true → -800000 ≤ tt ∧ tt ≤ 3000000) := Lib.hid fun tt h => there_bd h
        have CY := Lib.hid (fun q m tt n1 f1 w0 (hD : DeskR B H s vh wB.heap.size w0 q m n1 f1) (h1 : thereB tt = true) (h2 : n1 ≤ 900000) => day_any hD hc tt (thereB_true.1 h1) h2)
        have HDB := Lib.hid (fun t => And.intro (spOk_day hc t) (dayL_len hc t))
        unfold DayPost at CY
        have HLA := Lib.hid (And.intro la1 la2)
        clear hE hla hta hc hb0 hlt hr hR hB la3 hD hz hn0
        go_enter Tryz.func34, Tryz.ntmps34
        go_wp2_with (first | (go_at_call 45; refine (CST.out).mono ?_; rintro e w2 ⟨q, m, rfl, hd, hb2⟩; have HD := Lib.hid hd; have HB2 := Lib.hid hb2; clear hd hb2))
        clear f0 f1 f2 f3 f4 f5 f6 f7 hwB dn bz
        go_loopw [2, 11] (fun v c wr => ∃ (N1 : Int) (i n' : Nat) (f' : Int → Option Value), v = .int .i64 N1 ∧ c = .int .i64 (i : Int) ∧ i ≤ 4001 ∧ 1 ≤ N1 ∧ N1 ≤ n ∧ n' ≤ 3 * i ∧ Hid (aftR H a n = aftS H a (4001 - i) (D + i) N1) ∧ Hid (DeskR B H s vh wB.heap.size wr q m n' f') ∧ Hid (Below wB.heap.size wB wr)) (fun _ c _ => 4001 - (intOf c).toNat)
        case atStart => exact ⟨n, 0, _, _, rfl, by simp, by omega, hn1, by omega, Nat.zero_le _, Lib.hid (by rw [HE.out]; simp), HD, HB2⟩
        case round =>
          obtain ⟨N1, i, n', f', rfl, rfl, hi, b1, b2, hn', HE1, HDk, HBk⟩ := hrel
          by_cases hik : i < 4001
          · have k0 : (i : Int) ≤ 4000 := by omega
            have HFU := Lib.hid (show 4001 - i = (4001 - (i + 1)) + 1 by omega)
            have hddb0 : -900000 ≤ D + (i : Int) ∧ D + (i : Int) ≤ 3100000 := by omega
            have A1 := Lib.hid (show wrap64 (D + (i : Int)) = D + (i : Int) from wrap_in (InI.mk (by omega) (by omega)))
            have A2 := Lib.hid (show IntKind.i64.wrap (D + (i : Int)) = D + (i : Int) from IntWalk.i64_in _ (by omega))
            have CTn := Lib.hid (fun w0 h => CT.out (D + i) w0 h)
            cases ht : thereB (D + (i : Int)) with
            | false =>
              have HR4 : Hid (aftR H a n = (0, 4)) := Lib.hid (by rw [HE1.out, HFU.out, aftS_out ht])
              rw [ht] at CTn
              have a1 := A1.out
              clear ht
              go_wp2_with (go_at_call 47; refine (CTn.out _ HDk.out.rom).mono ?_; rintro e w4 ⟨rfl, hb4⟩; have HB4 := Lib.hid (thenB HBk.out hb4); clear hb4)
              go_ret2
              exact ⟨by rw [HR4.out, errV_hit (by decide)]; rfl, thenB HB0.out HB4.out⟩
            | true =>
              have hddb := HW.out (D + (i : Int)) ht
              have CYn := Lib.hid (fun w0 h => CY.out q m (D + (i : Int)) n' f' w0 h ht (by omega))
              obtain ⟨hok, hlen⟩ := HDB.out (D + (i : Int))
              obtain ⟨LL, hLL⟩ : ∃ LL, dayL H (D + (i : Int)) = LL := ⟨_, rfl⟩
              have HHIT : Hid (∀ t x, aftD a (D + (i : Int)) LL N1 = (some t, x) → aftR H a n = (t, 0)) := Lib.hid fun t x h => by rw [HE1.out, HFU.out]; exact aftS_hit ht (by rw [hLL]; exact h)
              have HNXT : Hid (∀ x, aftD a (D + (i : Int)) LL N1 = (none, x) → aftR H a n = aftS H a (4001 - (i + 1)) (D + ((i + 1 : Nat) : Int)) x) := Lib.hid fun x h => by rw [HE1.out, HFU.out, aftS_next ht (by rw [hLL]; exact h), show D + ((i + 1 : Nat) : Int) = D + (i : Int) + 1 by omega]
              have HLL := Lib.hid hLL
              rw [hLL] at hok hlen
              obtain ⟨LN, hLN⟩ : ∃ LN, LL.length = LN := ⟨_, rfl⟩
              have HLN := Lib.hid hLN
              rw [hLN] at hlen
              have HOK := Lib.hid hok
              rw [ht] at CTn
              have a1 := A1.out
              clear ht hLL hLN hok
              go_wp2_with (first
                | (go_at_call 47; refine (CTn.out _ HDk.out.rom).mono ?_; rintro e w4 ⟨rfl, hb4⟩; have HD4 := Lib.hid (HDk.out.call hb4); have HB4 := Lib.hid (thenB HBk.out hb4); clear hb4)
                | (go_at_call 48; refine (CYn.out _ HD4.out).mono ?_; rintro e w5 ⟨n5, f5', rfl, hd5, hn5, hg5⟩; have HD5 := Lib.hid hd5; have HB5 := Lib.hid (HB4.out.grown hg5 HB4.out.size (fun k hk => by cases hk; exact hd5.mb)); have hvs := dayV_sp hd5.hrs (D + (i : Int)); rw [HLL.out] at hvs; obtain ⟨oa, cap, hv⟩ := hvs.form; rw [HLN.out] at hv; rw [hv] at hvs ⊢; have HVS := Lib.hid hvs; clear hd5 hg5 hv hvs))
              clear a1
              go_loopw [2, 51] (fun v c wz => ∃ (N2 : Int) (k : Nat), v = .int .i64 N2 ∧ c = .int .i64 (k : Int) ∧ k ≤ LN ∧ 1 ≤ N2 ∧ N2 ≤ n ∧ Hid (aftD a (D + (i : Int)) LL N1 = aftD a (D + (i : Int)) (LL.drop k) N2) ∧ Hid (Below w5.heap.size w5 wz)) (fun _ c _ => LN - (intOf c).toNat)
              case atStart => exact ⟨N1, 0, rfl, by simp, by omega, b1, b2, Lib.hid (by simp), Lib.hid (Below.refl _ _)⟩
              case round =>
                obtain ⟨N2, k, rfl, rfl, hk, c1, c2, HN2, HBz⟩ := hrel
                by_cases hkl : k < LN
                · have hBw : B ≤ w5.heap.size := Nat.le_trans HBB.out HB5.out.size
                  obtain ⟨g, rfl, hgb, p1, p2⟩ := (HVS.out.call (HBz.out.mono hBw)).at (show k < LL.length by rw [HLN.out]; exact hkl)
                  obtain ⟨s1, s2, s3, -⟩ := HOK.out k (by rw [HLN.out]; exact hkl)
                  have HAT := Lib.hid (HN2.out.trans (aftD_at (a := a) (d := (D + (i : Int))) (n := N2) (show k < LL.length by rw [HLN.out]; exact hkl)))
                  obtain ⟨⟨F, G⟩, hFG⟩ : ∃ p : Int × Int, LL.getD k (0, 0) = p := ⟨_, rfl⟩
                  rw [hFG] at p1 p2 s1 s2 s3 HAT
                  simp only at p1 p2 s1 s2 s3 HAT
                  obtain ⟨la1, la2⟩ := HLA.out
                  have hNI := HNI.out
                  have k1 : (k : Int) < (LN : Int) := by omega
                  have k2 : (0 : Int) ≤ (k : Int) := by omega
                  clear hFG hgb
                  go_upto_region 16 with fail
                  obtain ⟨wA, hwA⟩ : ∃ W, wr.alloc (.cells #[.int .i64 F, .int .i64 G] 47) = W := ⟨_, rfl⟩
                  have hA : Below wr.heap.size wr wA := by rw [← hwA]; exact (Below.refl _ _).alloc (Nat.le_refl _) _
                  have HBA := Lib.hid (thenB HBz.out hA)
                  obtain ⟨z16, hz16⟩ : ∃ z, wr.heap.size = z := ⟨_, rfl⟩
                  have r0 : wA.cell? ⟨z16, 0, none⟩ = some (.int .i64 F) := by rw [← hwA, ← hz16]; simp
                  have r1 : wA.cell? ⟨z16, 1, none⟩ = some (.int .i64 G) := by rw [← hwA, ← hz16]; simp
                  simp only [hwA, hz16]
                  have e1 : IntKind.i64.wrap ((D + (i : Int)) * 1440) = (D + (i : Int)) * 1440 := IntWalk.i64_in _ (by omega)
                  have e2 : IntKind.i64.wrap ((D + (i : Int)) * 1440 + G) = (D + (i : Int)) * 1440 + G := IntWalk.i64_in _ (by omega)
                  have e3 : IntKind.i64.wrap (((D + (i : Int)) * 1440 + G) * 60) = ((D + (i : Int)) * 1440 + G) * 60 := IntWalk.i64_in _ (by omega)
                  have e4 : IntKind.i64.wrap ((D + (i : Int)) * 1440 + F) = (D + (i : Int)) * 1440 + F := IntWalk.i64_in _ (by omega)
                  have e5 : IntKind.i64.wrap (((D + (i : Int)) * 1440 + F) * 60) = ((D + (i : Int)) * 1440 + F) * 60 := IntWalk.i64_in _ (by omega)
                  have e6 := A2.out
                  clear hA hwA hz16 p1 p2
                  have hXb : -400000000000 ≤ max a (((D + (i : Int)) * 1440 + F) * 60) ∧ max a (((D + (i : Int)) * 1440 + F) * 60) ≤ 400000000000 ∧ -400000000000 ≤ ((D + (i : Int)) * 1440 + G) * 60 ∧ ((D + (i : Int)) * 1440 + G) * 60 ≤ 400000000000 := by omega
                  go_quiet (fail)
                  have HBQ := Lib.hid (belowN HBA.out nq)
                  clear e1 e2 e3 e4 e5 e6 r0 r1
                  obtain ⟨X, hX⟩ : ∃ X, max a (((D + (i : Int)) * 1440 + F) * 60) = X := ⟨_, rfl⟩
                  obtain ⟨Y, hY⟩ : ∃ Y, ((D + (i : Int)) * 1440 + G) * 60 = Y := ⟨_, rfl⟩
                  rw [hX, hY] at hXb HAT
                  simp only [hX, hY]
                  clear hX hY
                  have t1 : wrap64 (Y - X) = Y - X := wrap_in (InI.mk (by omega) (by omega))
                  by_cases hit : N2 ≤ Y - X
                  · have HR := Lib.hid (HHIT.out (X + N2) 0 (HAT.out.trans (if_pos hit)))
                    have t2 : wrap64 (X + N2) = X + N2 := wrap_in (InI.mk (by omega) (by omega))
                    go_wp2_with fail
                    go_ret2
                    exact ⟨by rw [HR.out, errV_nil]; rfl, thenB HB0.out (thenB HB5.out HBQ.out)⟩
                  · have HN3 := Lib.hid (HAT.out.trans (if_neg hit))
                    have t3 : wrap64 (N2 - max 0 (Y - X)) = N2 - max 0 (Y - X) := wrap_in ⟨by omega, by omega⟩
                    have t4 : 1 ≤ N2 - max 0 (Y - X) ∧ N2 - max 0 (Y - X) ≤ n := by omega
                    have T4 := Lib.hid t4
                    have dh : decide (N2 ≤ Y - X) = false := decide_eq_false hit
                    clear t4 hit
                    go_wp2_with fail
                    clear t1 t3 dh
                    go_roundw
                    case rel => exact ⟨_, k + 1, rfl, by go_num, by omega, T4.out.1, T4.out.2, HN3, HBQ⟩
                    case measure => simp [intOf]; omega
                · have hkn : k = LN := by omega
                  subst hkn
                  have HN4 := Lib.hid (HNXT.out N2 (HN2.out.trans (by rw [List.drop_of_length_le (by rw [HLN.out]; exact Nat.le_refl _)]; rfl)))
                  have HB6 := Lib.hid (thenB HB5.out HBz.out)
                  have HD6 := Lib.hid (HD5.out.call HBz.out)
                  go_wp2_with fail
                  go_roundw
                  case rel => first | exact ⟨N2, i + 1, n5, f5', rfl, by go_num, by omega, c1, c2, by omega, HN4, HD6, HB6⟩ | ((repeat apply Exists.intro); exact ⟨⟨rfl, by go_num, by omega, c1, c2, by omega, HN4, HD6, HB6⟩, rfl⟩)
                  case measure => simp [intOf]; omega
          · have e : i = 4001 := by omega
            subst e
            have HR12 : Hid (aftR H a n = (0, 12)) := Lib.hid (by rw [HE1.out]; rfl)
            go_wp2_with fail
            go_ret2
            exact ⟨by rw [HR12.out, errV_hit (by decide)]; rfl, thenB HB0.out HBk.out⟩
  · have CST := Lib.hid (start_bad B H s vh a wB HRB.out HHB.out HBB.out hE)
    have HE : Hid (aftR H a n = (0, stE H a)) := Lib.hid (if_pos hE)
    have HI := Lib.hid (errV_hit hE)
    rw [HI.out] at CST
    obtain ⟨EE, hEE⟩ : ∃ EE, stE H a = EE := ⟨_, rfl⟩
    rw [hEE] at CST HE HI
    unfold hoursV at CST
    unfold hoursV
    clear hE hEE hb0 hlt hr hR hB
    go_enter Tryz.func34, Tryz.ntmps34
    go_wp2_with (go_at_call 45; refine (CST.out).mono ?_; rintro e w2 ⟨rfl, hb2⟩; have HB2 := Lib.hid hb2; clear hb2)
    go_ret2
    exact ⟨by rw [HE.out, HI.out]; rfl, thenB HB0.out HB2.out⟩
end Go.Proofs.YtbgcccfgcdkmdaaGreatDoor
namespace Go.Proofs.YtbgcccfgcdkmdaaGreatDoor
open Go.RowKit Wrk
theorem loc_four {t : Int} (h : locE t ≠ 0) : locE t = 4 := by
  rcases loc_ways t with g | ⟨g1, g2⟩
  · exact (loc_out g).1
  · exact absurd (loc_in g1 g2).1 h
set_option maxRecDepth 100000 in
set_option maxHeartbeats 16000000 in
theorem rWorkBetween_any (B : Nat) (H : Hrs) (s : Nat → Value) (vh : Value) (a b : Int) (w : World) (hR : HrsR B w s vh H) (hB : B ≤ w.heap.size) (ia : InI a) (ib : InI b) : Calls Tryz.prog 14 #[hoursV s vh, .int .i64 a, .int .i64 b] w (BtPost H a b (Value.int .i64) w) := by
  obtain ⟨wB, hwB, ⟨hb0, hlt⟩, f0, f1, f2, f3, f4, f5, f6, f7⟩ := hours_cells s vh w
  have HB0 := Lib.hid hb0
  have HLT := Lib.hid hlt
  have HS : Hid (∀ w', Below wB.heap.size wB w' → (w'.cell? ⟨w.heap.size, 0, none⟩ = some (s 0) ∧ w'.cell? ⟨w.heap.size, 1, none⟩ = some (s 1) ∧ w'.cell? ⟨w.heap.size, 2, none⟩ = some (s 2) ∧ w'.cell? ⟨w.heap.size, 3, none⟩ = some (s 3) ∧ w'.cell? ⟨w.heap.size, 4, none⟩ = some (s 4) ∧ w'.cell? ⟨w.heap.size, 5, none⟩ = some (s 5) ∧ w'.cell? ⟨w.heap.size, 6, none⟩ = some (s 6) ∧ w'.cell? ⟨w.heap.size, 7, none⟩ = some vh)) := Lib.hid fun w' hb => ⟨(hb.cell (p := ⟨w.heap.size, 0, none⟩) HLT.out).trans f0, (hb.cell (p := ⟨w.heap.size, 1, none⟩) HLT.out).trans f1, (hb.cell (p := ⟨w.heap.size, 2, none⟩) HLT.out).trans f2, (hb.cell (p := ⟨w.heap.size, 3, none⟩) HLT.out).trans f3, (hb.cell (p := ⟨w.heap.size, 4, none⟩) HLT.out).trans f4, (hb.cell (p := ⟨w.heap.size, 5, none⟩) HLT.out).trans f5, (hb.cell (p := ⟨w.heap.size, 6, none⟩) HLT.out).trans f6, (hb.cell (p := ⟨w.heap.size, 7, none⟩) HLT.out).trans f7⟩
  have HHB := Lib.hid (hR.call (hb0.mono hB))
  have HBB := Lib.hid (Nat.le_trans hB hb0.size)
  have CC := Lib.hid (hoursCheck_any B H s vh wB HHB.out HBB.out)
  unfold BtPost
  by_cases hc : chk H = 0
  · have CSa := Lib.hid (fun w0 => refSplit_all a w0 ia)
    have CSb := Lib.hid (fun w0 => refSplit_all b w0 ib)
    rw [hc] at CC
    obtain ⟨D, hD⟩ : ∃ D, locD a = D := ⟨_, rfl⟩
    obtain ⟨C, hC⟩ : ∃ C, locD b = C := ⟨_, rfl⟩
    obtain ⟨SA, hSA⟩ : ∃ S, locS a = S := ⟨_, rfl⟩
    obtain ⟨SB, hSB⟩ : ∃ S, locS b = S := ⟨_, rfl⟩
    rw [hD, hSA] at CSa
    rw [hC, hSB] at CSb
    have HDD0 := Lib.hid hD
    have HCC0 := Lib.hid hC
    clear hD hC hSA hSB
    have CTa := Lib.hid (fun w0 => workThere_any D w0)
    have CTb := Lib.hid (fun w0 => workThere_any C w0)
    by_cases hla : locE a = 0
    · rw [hla] at CSa
      cases hta : thereB D with
      | false =>
        have hs := stE_out hc hla (by rw [HDD0.out]; exact hta)
        have HE : Hid (btR H a b = (0, 4)) := Lib.hid (by rw [btR_st (by rw [hs]; decide), hs])
        rw [hta] at CTa
        unfold hoursV at CC
        unfold hoursV
        clear hs hta hla hb0 hlt hR hB hc ia ib
        go_enter Tryz.func14, Tryz.ntmps14
        go_wp2_with (first | (go_at_call 11; refine (CC.out).mono ?_; rintro e w2 ⟨rfl, hb2⟩; have HB2 := Lib.hid hb2; clear hb2) | (go_at_call 31; (with_reducible refine (CSa.out _).mono ?_); rintro e w3 ⟨rfl, rfl⟩) | (go_at_call 32; (with_reducible refine (CTa.out _).mono ?_); rintro e w4 ⟨rfl, hb4⟩; have HB4 := Lib.hid (thenB HB2.out hb4); clear hb4))
        go_ret2
        exact ⟨by rw [HE.out]; rfl, thenB HB0.out HB4.out⟩
      | true =>
        have hE := stE_ok hc hla (by rw [HDD0.out]; exact hta)
        rw [hta] at CTa
        by_cases hl : locE b = 0
        · rw [hl] at CSb
          by_cases hab : b < a
          · have HE := Lib.hid (btR_order hE hl hab)
            unfold hoursV at CC
            unfold hoursV
            clear hE hl hla hta hb0 hlt hR hB hc ia ib
            go_enter Tryz.func14, Tryz.ntmps14
            go_wp2_with (first | (go_at_call 11; refine (CC.out).mono ?_; rintro e w2 ⟨rfl, hb2⟩; have HB2 := Lib.hid hb2; clear hb2) | (go_at_call 31; (with_reducible refine (CSa.out _).mono ?_); rintro e w3 ⟨rfl, rfl⟩) | (go_at_call 32; (with_reducible refine (CTa.out _).mono ?_); rintro e w4 ⟨rfl, hb4⟩; have HB4 := Lib.hid (thenB HB2.out hb4); clear hb4) | (go_at_call 31; (with_reducible refine (CSb.out _).mono ?_); rintro e w3 ⟨rfl, rfl⟩))
            go_ret2
            exact ⟨by rw [HE.out]; rfl, thenB HB0.out HB4.out⟩
          · have dab : decide (b < a) = false := decide_eq_false hab
            cases htb : thereB C with
            | false =>
              have HE := Lib.hid (btR_out hE hl hab (.inl (by rw [HCC0.out]; exact htb)))
              rw [htb] at CTb
              unfold hoursV at CC
              unfold hoursV
              clear hE hl hla hta htb hab hb0 hlt hR hB hc ia ib
              go_enter Tryz.func14, Tryz.ntmps14
              go_wp2_with (first | (go_at_call 11; refine (CC.out).mono ?_; rintro e w2 ⟨rfl, hb2⟩; have HB2 := Lib.hid hb2; clear hb2) | (go_at_call 31; (with_reducible refine (CSa.out _).mono ?_); rintro e w3 ⟨rfl, rfl⟩) | (go_at_call 32; (with_reducible refine (CTa.out _).mono ?_); rintro e w4 ⟨rfl, hb4⟩; have HB4 := Lib.hid (thenB HB2.out hb4); clear hb4) | (go_at_call 31; (with_reducible refine (CSb.out _).mono ?_); rintro e w3 ⟨rfl, rfl⟩) | (go_at_call 32; (with_reducible refine (CTb.out _).mono ?_); rintro e w5 ⟨rfl, hb5⟩; have HB5 := Lib.hid (thenB HB4.out hb5); clear hb5))
              go_ret2
              exact ⟨by rw [HE.out]; rfl, thenB HB0.out HB5.out⟩
            | true =>
              have tb1 := there_bd htb
              have tb2 := there_bd hta
              have hDC : D ≤ C := le_trans_div (loc_day hla HDD0.out) (loc_day hl HCC0.out) (Int.not_lt.1 hab)
              have w1 : wrap64 (C - D) = C - D := wrap_in (InI.mk (by omega) (by omega))
              by_cases hf : 4000 < C - D
              · have HE := Lib.hid (btR_out hE hl hab (.inr (by rw [HCC0.out, HDD0.out]; exact hf)))
                rw [htb] at CTb
                unfold hoursV at CC
                unfold hoursV
                clear hE hl hla hta htb hab hb0 hlt hR hB hc ia ib
                go_enter Tryz.func14, Tryz.ntmps14
                go_wp2_with (first | (go_at_call 11; refine (CC.out).mono ?_; rintro e w2 ⟨rfl, hb2⟩; have HB2 := Lib.hid hb2; clear hb2) | (go_at_call 31; (with_reducible refine (CSa.out _).mono ?_); rintro e w3 ⟨rfl, rfl⟩) | (go_at_call 32; (with_reducible refine (CTa.out _).mono ?_); rintro e w4 ⟨rfl, hb4⟩; have HB4 := Lib.hid (thenB HB2.out hb4); clear hb4) | (go_at_call 31; (with_reducible refine (CSb.out _).mono ?_); rintro e w3 ⟨rfl, rfl⟩) | (go_at_call 32; (with_reducible refine (CTb.out _).mono ?_); rintro e w5 ⟨rfl, hb5⟩; have HB5 := Lib.hid (thenB HB4.out hb5); clear hb5))
                go_ret2
                exact ⟨by rw [HE.out]; rfl, thenB HB0.out HB5.out⟩
              · have df : decide (4000 < C - D) = false := decide_eq_false hf
                have HE : Hid (btR H a b = (btS H a b D (C - D + 1).toNat, 0)) := Lib.hid (by
                  have h := btR_in hE hl hab (by rw [HCC0.out]; exact htb) (by rw [HCC0.out, HDD0.out]; exact hf)
                  rwa [HCC0.out, HDD0.out] at h)
                obtain ⟨M, hM⟩ : ∃ M : Nat, C - D = (M : Int) := ⟨(C - D).toNat, by omega⟩
                have hM4 : M ≤ 4000 := by omega
                have HM := Lib.hid hM
                have CW : Hid (∀ w0, Below wB.heap.size wB w0 → Calls Tryz.prog 33 #[hoursV s vh, .int .i64 D, .int .i64 (C - D + 1)] w0 fun e w' => ∃ v, e = .returned (.agg #[.int .i64 D, v]) ∧ WksL w' w0.heap.size v (M + 1) (fun i => dayV H s (D + i)) ∧ Below w0.heap.size w0 w') := Lib.hid (fun w0 hb => by
                  rw [show C - D + 1 = ((M + 1 : Nat) : Int) by omega]
                  exact newWorks_any B H s vh D (M + 1) w0 (HHB.out.call (hb.mono HBB.out)) (Nat.le_trans HBB.out hb.size) hc (by omega) (by omega) (by omega))
                have HSB := Lib.hid (fun d k => btS_bd hc (a := a) (b := b) (d := d) k)
                have HDB := Lib.hid (fun t => And.intro (spOk_day hc t) (dayL_len hc t))
                have HDV := Lib.hid (fun w0 (hb : Below wB.heap.size wB w0) t => dayV_sp (HHB.out.call (hb.mono HBB.out)) t)
                have lab : -345600000000 ≤ a ∧ a ≤ 345600086399 ∧ -345600000000 ≤ b ∧ b ≤ 345600086399 := ⟨(loc_zero hla).1, (loc_zero hla).2.1, (loc_zero hl).1, (loc_zero hl).2.1⟩
                have w2' : wrap64 (C - D + 1) = C - D + 1 := wrap_in (InI.mk (by omega) (by omega))
                rw [htb] at CTb
                unfold hoursV at CC CW
                unfold hoursV
                clear hE hl hla hta htb hab hb0 hlt hR hB hc ia ib hf hM
                go_enter Tryz.func14, Tryz.ntmps14
                go_upto_region 15 with (first | (go_at_call 11; refine (CC.out).mono ?_; rintro e w2 ⟨rfl, hb2⟩; have HB2 := Lib.hid hb2; clear hb2) | (go_at_call 31; (with_reducible refine (CSa.out _).mono ?_); rintro e w3 ⟨rfl, rfl⟩) | (go_at_call 32; (with_reducible refine (CTa.out _).mono ?_); rintro e w4 ⟨rfl, hb4⟩; have HB4 := Lib.hid (thenB HB2.out hb4); clear hb4) | (go_at_call 31; (with_reducible refine (CSb.out _).mono ?_); rintro e w3 ⟨rfl, rfl⟩) | (go_at_call 32; (with_reducible refine (CTb.out _).mono ?_); rintro e w5 ⟨rfl, hb5⟩; have HB5 := Lib.hid (thenB HB4.out hb5); clear hb5))
                clear f0 f1 f2 f3 f4 f5 f6 f7 hwB df dab
                obtain ⟨g0, g1, g2, g3, g4, g5, g6, g7⟩ := HS.out _ HB5.out
                go_upto_region 16 with (go_at_call 33; (with_reducible refine (CW.out _ HB5.out).mono ?_); rintro e w6 ⟨v, rfl, hv, hb6⟩; obtain ⟨oa, cap, hvf⟩ := hv.form; subst hvf; have HV := Lib.hid hv; have HB6 := Lib.hid (thenB HB5.out hb6); clear hb6 hv)
                clear g0 g1 g2 g3 g4 g5 g6 g7 w2'
                obtain ⟨z, hz⟩ : ∃ z, w6.heap.size = z := ⟨_, rfl⟩
                obtain ⟨wX, hwX⟩ : ∃ W, w6.alloc (.cells #[.int .i64 D, .slice oa (M + 1) cap] 68) = W := ⟨_, rfl⟩
                have hX : Below w6.heap.size w6 wX := by rw [← hwX]; exact (Below.refl _ _).alloc (Nat.le_refl _) _
                have HBX := Lib.hid (thenB HB6.out hX)
                have HVX := Lib.hid (HV.out.call hX)
                have HCZ := Lib.hid (show wX.cell? ⟨z, 1, none⟩ = some (.slice oa (M + 1) cap) ∧ z < wX.heap.size by rw [← hwX, ← hz]; simp)
                simp only [hwX, hz]
                clear hX hwX hz
                go_wp2_with fail
                go_loopw [14, 16] (fun v c wr => ∃ (N1 : Int) (i : Nat), v = .int .i64 N1 ∧ c = .int .i64 (i : Int) ∧ i ≤ M + 1 ∧ Hid (N1 = btS H a b D i) ∧ Hid (Below wX.heap.size wX wr)) (fun _ c _ => M + 1 - (intOf c).toNat)
                case atStart => exact ⟨0, 0, rfl, by simp, by omega, Lib.hid rfl, Lib.hid (Below.refl _ _)⟩
                case round =>
                  obtain ⟨N1, i, rfl, rfl, hi, HN, HBk⟩ := hrel
                  have hMM := HM.out
                  by_cases hik : i < M + 1
                  · have k0 : (i : Int) ≤ C - D := by omega
                    obtain ⟨gg, rfl, -, hgl, hcl⟩ := HVX.out.at hik
                    have hvs := HDV.out _ (thenB HBX.out HBk.out) (D + i)
                    obtain ⟨od, cd, hvd⟩ := hvs.form
                    rw [hvd] at hvs hcl
                    have q1 := (HBk.out.cell (p := ⟨gg, i, none⟩) hgl).trans hcl
                    have q2 := (HBk.out.cell (p := ⟨z, 1, none⟩) HCZ.out.2).trans HCZ.out.1
                    have hnb := HSB.out D i
                    rw [← HN.out] at hnb
                    have hst : Hid (btS H a b D (i + 1) = btS H a b D i + daS a b (D + i) (dayL H (D + i)) (dayL H (D + i)).length) := Lib.hid rfl
                    obtain ⟨hok, hlen⟩ := HDB.out (D + i)
                    obtain ⟨LL, hLL⟩ : ∃ LL, dayL H (D + i) = LL := ⟨_, rfl⟩
                    rw [hLL] at hst hok hlen hvs q1
                    obtain ⟨LN, hLN⟩ : ∃ LN, LL.length = LN := ⟨_, rfl⟩
                    have HLN := Lib.hid hLN
                    rw [hLN] at hst hlen hvs q1
                    have HOK := Lib.hid hok
                    have HVS := Lib.hid hvs
                    have j1 : (0 : Int) ≤ (i : Int) := by omega
                    have j2 : (i : Int) < ((M + 1 : Nat) : Int) := by omega
                    have j3 : (i : Int) < (M : Int) + 1 := by omega
                    obtain ⟨w5, hw5⟩ : ∃ W : World, W = wr := ⟨_, rfl⟩
                    subst hw5
                    clear hLL hLN hok hvs hcl hgl hvd
                    go_wp2_with fail
                    clear q1 q2
                    go_loopw [14, 83] (fun v c wz => ∃ (N2 : Int) (k : Nat), v = .int .i64 N2 ∧ c = .int .i64 (k : Int) ∧ k ≤ LN ∧ Hid (N2 = N1 + daS a b (D + i) LL k) ∧ Hid (Below w5.heap.size w5 wz)) (fun _ c _ => LN - (intOf c).toNat)
                    case atStart => exact ⟨N1, 0, rfl, by simp, by omega, Lib.hid (by simp [daS]), Lib.hid (Below.refl _ _)⟩
                    case round =>
                      obtain ⟨N2, k, rfl, rfl, hk, HN2, HBz⟩ := hrel
                      by_cases hkl : k < LN
                      · obtain ⟨g, rfl, hgb, p1, p2⟩ := (HVS.out.call (HBz.out.mono (Nat.le_trans HBB.out (thenB HBX.out HBk.out).size))).at (show k < LL.length by rw [HLN.out]; exact hkl)
                        obtain ⟨s1, s2, s3, -⟩ := HOK.out k (by rw [HLN.out]; exact hkl)
                        have hdb := daS_bd HOK.out (a := a) (b := b) (d := D + i) k (by rw [HLN.out]; exact hk)
                        have hN2 := HN2.out
                        have hstep : Hid (N1 + daS a b (D + i) LL (k + 1) = N1 + daS a b (D + i) LL k + spS a b (D + i) (LL.getD k (0, 0))) := Lib.hid (by rw [daS]; omega)
                        obtain ⟨⟨F, G⟩, hFG⟩ : ∃ p : Int × Int, LL.getD k (0, 0) = p := ⟨_, rfl⟩
                        rw [hFG] at p1 p2 s1 s2 s3 hstep
                        simp only at p1 p2 s1 s2 s3
                        have hN2b : 0 ≤ N2 ∧ N2 ≤ 100000000000 := by omega
                        have k1 : (k : Int) < (LN : Int) := by omega
                        have k2 : (0 : Int) ≤ (k : Int) := by omega
                        obtain ⟨la1, la2, lb1, lb2⟩ := lab
                        have hddb : -800000 ≤ D + (i : Int) ∧ D + (i : Int) ≤ 3000000 := by omega
                        clear hFG hN2 hdb hgb
                        go_upto_region 22 with fail
                        obtain ⟨wA, hwA⟩ : ∃ W, wr.alloc (.cells #[.int .i64 F, .int .i64 G] 47) = W := ⟨_, rfl⟩
                        have hA : Below wr.heap.size wr wA := by rw [← hwA]; exact (Below.refl _ _).alloc (Nat.le_refl _) _
                        have HBA := Lib.hid (thenB HBz.out hA)
                        obtain ⟨z16, hz16⟩ : ∃ z, wr.heap.size = z := ⟨_, rfl⟩
                        have r0 : wA.cell? ⟨z16, 0, none⟩ = some (.int .i64 F) := by rw [← hwA, ← hz16]; simp
                        have r1 : wA.cell? ⟨z16, 1, none⟩ = some (.int .i64 G) := by rw [← hwA, ← hz16]; simp
                        simp only [hwA, hz16]
                        have e1 : IntKind.i64.wrap ((D + (i : Int)) * 86400) = (D + (i : Int)) * 86400 := IntWalk.i64_in _ (by omega)
                        have e2 : IntKind.i64.wrap (F * 60) = F * 60 := IntWalk.i64_in _ (by omega)
                        have e3 : IntKind.i64.wrap (G * 60) = G * 60 := IntWalk.i64_in _ (by omega)
                        have e4 : IntKind.i64.wrap ((D + (i : Int)) * 86400 + F * 60) = (D + (i : Int)) * 86400 + F * 60 := IntWalk.i64_in _ (by omega)
                        have e5 : IntKind.i64.wrap ((D + (i : Int)) * 86400 + G * 60) = (D + (i : Int)) * 86400 + G * 60 := IntWalk.i64_in _ (by omega)
                        have e6 : IntKind.i64.wrap (D + (i : Int)) = D + (i : Int) := IntWalk.i64_in _ (by omega)
                        clear hA hwA hz16 p1 p2
                        go_quiet (fail)
                        have HBQ := Lib.hid (belowN HBA.out nq)
                        clear e1 e2 e3 e4 e5 e6 r0 r1
                        have HN3 : Hid (N2 + max 0 (min ((D + (i : Int)) * 86400 + G * 60) b - max ((D + (i : Int)) * 86400 + F * 60) a) = N1 + daS a b (D + i) LL (k + 1)) := Lib.hid (by
                          have h1 := hstep.out
                          have h2 := HN2.out
                          unfold spS at h1
                          simp only at h1
                          omega)
                        go_wp2_with fail
                        go_roundw
                        case rel => exact ⟨_, k + 1, rfl, by go_num, by omega, HN3, HBQ⟩
                        case measure => simp [intOf]; omega
                      · have hkn : k = LN := by omega
                        subst hkn
                        have HN4 : Hid (N2 = btS H a b D (i + 1)) := Lib.hid (by rw [hst.out, HN2.out, HN.out])
                        have HB7 := Lib.hid (thenB HBk.out HBz.out)
                        go_wp2_with fail
                        go_roundw
                        case rel => first | exact ⟨N2, i + 1, rfl, by go_num, by omega, HN4, HB7⟩ | ((repeat apply Exists.intro); exact ⟨⟨rfl, by go_num, by omega, HN4, HB7⟩, rfl⟩)
                        case measure => simp [intOf]; omega
                  · have e : (C - D + 1).toNat = i := by omega
                    have HN2 : Hid (btR H a b = (N1, 0)) := Lib.hid (by rw [HE.out, e, HN.out])
                    have k0 : ¬ (i : Int) ≤ C - D := by omega
                    clear e
                    go_wp2_with fail
                    go_ret2
                    exact ⟨by rw [HN2.out]; rfl, thenB HB0.out (thenB HBX.out HBk.out)⟩
        · have h4 := loc_four hl
          have HE : Hid (btR H a b = (0, 4)) := Lib.hid (by rw [btR_loc hE hl, h4])
          rw [h4] at CSb
          unfold hoursV at CC
          unfold hoursV
          clear h4 hE hl hla hta hb0 hlt hR hB hc ia ib
          go_enter Tryz.func14, Tryz.ntmps14
          go_wp2_with (first | (go_at_call 11; refine (CC.out).mono ?_; rintro e w2 ⟨rfl, hb2⟩; have HB2 := Lib.hid hb2; clear hb2) | (go_at_call 31; (with_reducible refine (CSa.out _).mono ?_); rintro e w3 ⟨rfl, rfl⟩) | (go_at_call 32; (with_reducible refine (CTa.out _).mono ?_); rintro e w4 ⟨rfl, hb4⟩; have HB4 := Lib.hid (thenB HB2.out hb4); clear hb4) | (go_at_call 31; (with_reducible refine (CSb.out _).mono ?_); rintro e w3 ⟨rfl, rfl⟩))
          go_ret2
          exact ⟨by rw [HE.out]; rfl, thenB HB0.out HB4.out⟩
    · have h4 := loc_four hla
      have hs := stE_loc hc hla
      have HE : Hid (btR H a b = (0, 4)) := Lib.hid (by rw [btR_st (by rw [hs]; exact hla), hs, h4])
      rw [h4] at CSa
      unfold hoursV at CC
      unfold hoursV
      clear h4 hs hla hb0 hlt hR hB hc ia ib
      go_enter Tryz.func14, Tryz.ntmps14
      go_wp2_with (first | (go_at_call 11; refine (CC.out).mono ?_; rintro e w2 ⟨rfl, hb2⟩; have HB2 := Lib.hid hb2; clear hb2) | (go_at_call 31; (with_reducible refine (CSa.out _).mono ?_); rintro e w3 ⟨rfl, rfl⟩))
      go_ret2
      exact ⟨by rw [HE.out]; rfl, thenB HB0.out HB2.out⟩
  · have HE := Lib.hid (show btR H a b = (0, chk H) from (btR_st (by rw [stE_bad hc]; exact hc)).trans (by rw [stE_bad hc]))
    obtain ⟨E, hE⟩ : ∃ E, chk H = E := ⟨_, rfl⟩
    rw [hE] at CC HE hc
    have bE : (E == 0) = false := by simpa using hc
    have bE2 : (E != 0) = true := by simpa using hc
    unfold hoursV at CC
    unfold hoursV
    clear hb0 hlt hR hB hc hE
    go_enter Tryz.func14, Tryz.ntmps14
    go_wp2_with (go_at_call 11; refine (CC.out).mono ?_; rintro e w2 ⟨rfl, hb2⟩; have HB2 := Lib.hid hb2; clear hb2)
    go_ret2
    exact ⟨by rw [HE.out]; rfl, thenB HB0.out HB2.out⟩
end Go.Proofs.YtbgcccfgcdkmdaaGreatDoor
namespace Go.Proofs.YtbgcccfgcdkmdaaGreatDoor
open Go.RowKit Wrk
set_option maxRecDepth 100000 in
set_option maxHeartbeats 16000000 in
theorem rWorkAfter_any (B : Nat) (H : Hrs) (s : Nat → Value) (vh : Value) (a n : Int) (w : World) (hR : HrsR B w s vh H) (hB : B ≤ w.heap.size) (ia : InI a) (hni : InI n) : Calls Tryz.prog 16 #[hoursV s vh, .int .i64 a, .int .i64 n] w (AftPost H a n (Value.int .i64) w) := by
  obtain ⟨wB, hwB, ⟨hb0, hlt⟩, f0, f1, f2, f3, f4, f5, f6, f7⟩ := hours_cells s vh w
  have HB0 := Lib.hid hb0
  have HLT := Lib.hid hlt
  have HS : Hid (∀ w', Below wB.heap.size wB w' → (w'.cell? ⟨w.heap.size, 0, none⟩ = some (s 0) ∧ w'.cell? ⟨w.heap.size, 1, none⟩ = some (s 1) ∧ w'.cell? ⟨w.heap.size, 2, none⟩ = some (s 2) ∧ w'.cell? ⟨w.heap.size, 3, none⟩ = some (s 3) ∧ w'.cell? ⟨w.heap.size, 4, none⟩ = some (s 4) ∧ w'.cell? ⟨w.heap.size, 5, none⟩ = some (s 5) ∧ w'.cell? ⟨w.heap.size, 6, none⟩ = some (s 6) ∧ w'.cell? ⟨w.heap.size, 7, none⟩ = some vh)) := Lib.hid fun w' hb => ⟨(hb.cell (p := ⟨w.heap.size, 0, none⟩) HLT.out).trans f0, (hb.cell (p := ⟨w.heap.size, 1, none⟩) HLT.out).trans f1, (hb.cell (p := ⟨w.heap.size, 2, none⟩) HLT.out).trans f2, (hb.cell (p := ⟨w.heap.size, 3, none⟩) HLT.out).trans f3, (hb.cell (p := ⟨w.heap.size, 4, none⟩) HLT.out).trans f4, (hb.cell (p := ⟨w.heap.size, 5, none⟩) HLT.out).trans f5, (hb.cell (p := ⟨w.heap.size, 6, none⟩) HLT.out).trans f6, (hb.cell (p := ⟨w.heap.size, 7, none⟩) HLT.out).trans f7⟩
  have HHB := Lib.hid (hR.call (hb0.mono hB))
  have HBB := Lib.hid (Nat.le_trans hB hb0.size)
  have CC := Lib.hid (hoursCheck_any B H s vh wB HHB.out HBB.out)
  unfold AftPost
  by_cases hc : chk H = 0
  · have CSa := Lib.hid (fun w0 => refSplit_all a w0 ia)
    rw [hc] at CC
    obtain ⟨D, hD⟩ : ∃ D, locD a = D := ⟨_, rfl⟩
    obtain ⟨SA, hSA⟩ : ∃ S, locS a = S := ⟨_, rfl⟩
    rw [hD, hSA] at CSa
    have HDD0 := Lib.hid hD
    clear hD hSA
    have CTa := Lib.hid (fun w0 => workThere_any D w0)
    by_cases hla : locE a = 0
    · rw [hla] at CSa
      cases hta : thereB D with
      | false =>
        have hs := stE_out hc hla (by rw [HDD0.out]; exact hta)
        have HE : Hid (aftR H a n = (0, 4)) := Lib.hid (by unfold aftR; rw [if_pos (by rw [hs]; decide), hs])
        rw [hta] at CTa
        unfold hoursV at CC
        unfold hoursV
        clear hs hta hla hb0 hlt hR hB hc ia
        go_enter Tryz.func16, Tryz.ntmps16
        go_wp2_with (first | (go_at_call 11; refine (CC.out).mono ?_; rintro e w2 ⟨rfl, hb2⟩; have HB2 := Lib.hid hb2; clear hb2) | (go_at_call 31; (with_reducible refine (CSa.out _).mono ?_); rintro e w3 ⟨rfl, rfl⟩) | (go_at_call 32; (with_reducible refine (CTa.out _).mono ?_); rintro e w4 ⟨rfl, hb4⟩; have HB4 := Lib.hid (thenB HB2.out hb4); clear hb4))
        go_ret2
        exact ⟨by rw [HE.out]; rfl, thenB HB0.out HB4.out⟩
      | true =>
        have hE := stE_ok hc hla (by rw [HDD0.out]; exact hta)
        have tb2 := there_bd hta
        have lab : -345600000000 ≤ a ∧ a ≤ 345600086399 := ⟨(loc_zero hla).1, (loc_zero hla).2.1⟩
        rw [hta] at CTa
        by_cases hn0 : n < 0
        · have HE : Hid (aftR H a n = (0, 1)) := Lib.hid (by unfold aftR; rw [if_neg (by rw [hE]; decide), if_pos hn0])
          unfold hoursV at CC
          unfold hoursV
          clear hE hla hta hb0 hlt hR hB hc ia
          go_enter Tryz.func16, Tryz.ntmps16
          go_wp2_with (first | (go_at_call 11; refine (CC.out).mono ?_; rintro e w2 ⟨rfl, hb2⟩; have HB2 := Lib.hid hb2; clear hb2) | (go_at_call 31; (with_reducible refine (CSa.out _).mono ?_); rintro e w3 ⟨rfl, rfl⟩) | (go_at_call 32; (with_reducible refine (CTa.out _).mono ?_); rintro e w4 ⟨rfl, hb4⟩; have HB4 := Lib.hid (thenB HB2.out hb4); clear hb4))
          go_ret2
          exact ⟨by rw [HE.out]; rfl, thenB HB0.out HB4.out⟩
        · have dn : decide (n < 0) = false := decide_eq_false hn0
          by_cases hz : n = 0
          · have HE : Hid (aftR H a n = (a, 0)) := Lib.hid (by unfold aftR; rw [if_neg (by rw [hE]; decide), if_neg hn0, if_pos hz])
            subst hz
            unfold hoursV at CC
            unfold hoursV
            clear hE hla hta hb0 hlt hR hB hc ia dn
            go_enter Tryz.func16, Tryz.ntmps16
            go_wp2_with (first | (go_at_call 11; refine (CC.out).mono ?_; rintro e w2 ⟨rfl, hb2⟩; have HB2 := Lib.hid hb2; clear hb2) | (go_at_call 31; (with_reducible refine (CSa.out _).mono ?_); rintro e w3 ⟨rfl, rfl⟩) | (go_at_call 32; (with_reducible refine (CTa.out _).mono ?_); rintro e w4 ⟨rfl, hb4⟩; have HB4 := Lib.hid (thenB HB2.out hb4); clear hb4))
            go_ret2
            exact ⟨by rw [HE.out]; rfl, thenB HB0.out HB4.out⟩
          · have HE : Hid (aftR H a n = aftS H a 4001 D n) := Lib.hid (by unfold aftR; rw [if_neg (by rw [hE]; decide), if_neg hn0, if_neg hz, HDD0.out])
            have bz : (n == 0) = false := by simpa using hz
            have HNI := Lib.hid hni.2
            have hn1 : 1 ≤ n := by omega
            have CT := Lib.hid (fun tt w0 => workThere_any tt w0)
            have HW : Hid (∀ tt, thereB tt = true → -800000 ≤ tt ∧ tt ≤ 3000000) := Lib.hid fun tt h => there_bd h
            have CW : Hid (∀ lo w0, -1000000 ≤ lo → lo ≤ 3100000 → Below wB.heap.size wB w0 → Calls Tryz.prog 33 #[hoursV s vh, .int .i64 lo, .int .i64 50] w0 fun e w' => ∃ v, e = .returned (.agg #[.int .i64 lo, v]) ∧ WksL w' w0.heap.size v 50 (fun i => dayV H s (lo + i)) ∧ Below w0.heap.size w0 w') := Lib.hid (fun lo w0 l1 l2 hb => newWorks_any B H s vh lo 50 w0 (HHB.out.call (hb.mono HBB.out)) (Nat.le_trans HBB.out hb.size) hc l1 l2 (by decide))
            have HDB := Lib.hid (fun t => And.intro (spOk_day hc t) (dayL_len hc t))
            have HDV := Lib.hid (fun w0 (hb : Below wB.heap.size wB w0) t => dayV_sp (HHB.out.call (hb.mono HBB.out)) t)
            unfold hoursV at CC CW
            unfold hoursV
            clear hE hla hta hb0 hlt hR hB hc ia hz hn0
            go_enter Tryz.func16, Tryz.ntmps16
            go_wp2_with (first | (go_at_call 11; refine (CC.out).mono ?_; rintro e w2 ⟨rfl, hb2⟩; have HB2 := Lib.hid hb2; clear hb2) | (go_at_call 31; (with_reducible refine (CSa.out _).mono ?_); rintro e w3 ⟨rfl, rfl⟩) | (go_at_call 32; (with_reducible refine (CTa.out _).mono ?_); rintro e w4 ⟨rfl, hb4⟩; have HB4 := Lib.hid (thenB HB2.out hb4); clear hb4))
            clear f0 f1 f2 f3 f4 f5 f6 f7 hwB dn bz
            go_loopw [2, 12] (fun v cc wr => ∃ (N1 : Int) (c : Nat), v = .int .i64 N1 ∧ cc = .int .i64 (50 * (c : Int)) ∧ c ≤ 81 ∧ 1 ≤ N1 ∧ N1 ≤ n ∧ (D + (50 * (c : Int)) ≤ 3000100 ∨ c = 81) ∧ Hid (aftR H a n = aftS H a (4001 - 50 * c) (D + (50 * (c : Int))) N1) ∧ Hid (Below wB.heap.size wB wr)) (fun _ cc _ => 4050 - (intOf cc).toNat)
            case atStart => exact ⟨n, 0, rfl, by simp, by omega, hn1, by omega, .inl (by omega), Lib.hid (by rw [HE.out]; simp), HB4⟩
            case round =>
              obtain ⟨N1, c, rfl, rfl, hcc, b1, b2, b3, HE1, HBk⟩ := hrel
              by_cases hik : c < 81
              · have k0 : (50 * (c : Int)) ≤ 4000 := by omega
                have b3' : D + (50 * (c : Int)) ≤ 3000100 := by omega
                obtain ⟨g0, g1, g2, g3, g4, g5, g6, g7⟩ := HS.out _ HBk.out
                have a1 : wrap64 (D + (50 * (c : Int))) = D + (50 * (c : Int)) := wrap_in (InI.mk (by omega) (by omega))
                have CWl := Lib.hid (fun w0 hb => CW.out (D + (50 * (c : Int))) w0 (by omega) (by omega) hb)
                go_upto_region 15 with (go_at_call 33; (with_reducible refine (CWl.out _ HBk.out).mono ?_); rintro e w6 ⟨v, rfl, hv, hb6⟩; obtain ⟨oa, cap, hvf⟩ := hv.form; subst hvf; have HV := Lib.hid hv; have HB6 := Lib.hid (thenB HBk.out hb6); clear hb6 hv)
                clear g0 g1 g2 g3 g4 g5 g6 g7
                obtain ⟨z, hz⟩ : ∃ z, w6.heap.size = z := ⟨_, rfl⟩
                obtain ⟨wX, hwX⟩ : ∃ W, w6.alloc (.cells #[.int .i64 (D + (50 * (c : Int))), .slice oa 50 cap] 68) = W := ⟨_, rfl⟩
                have hX : Below w6.heap.size w6 wX := by rw [← hwX]; exact (Below.refl _ _).alloc (Nat.le_refl _) _
                have HBX := Lib.hid (thenB HB6.out hX)
                have HVX := Lib.hid (HV.out.call hX)
                have HCZ := Lib.hid (show wX.cell? ⟨z, 1, none⟩ = some (.slice oa 50 cap) ∧ z < wX.heap.size by rw [← hwX, ← hz]; simp)
                simp only [hwX, hz]
                clear hX hwX hz
                go_wp2_with fail
                go_loopw [2, 14] (fun v kk wr => ∃ (N2 : Int) (k : Nat), v = .int .i64 N2 ∧ kk = .int .i64 (k : Int) ∧ k ≤ 50 ∧ 50 * c + k ≤ 4001 ∧ 1 ≤ N2 ∧ N2 ≤ n ∧ D + (50 * (c : Int)) + (k : Int) ≤ 3000100 ∧ Hid (aftR H a n = aftS H a (4001 - 50 * c - k) (D + (50 * (c : Int)) + (k : Int)) N2) ∧ Hid (Below wX.heap.size wX wr)) (fun _ kk _ => 50 - (intOf kk).toNat)
                case atStart => exact ⟨N1, 0, rfl, by simp, by omega, by omega, b1, b2, by omega, Lib.hid (by rw [HE1.out]; simp), Lib.hid (Below.refl _ _)⟩
                case round =>
                  obtain ⟨N2, k, rfl, rfl, hk, hck, c1, c2, c3, HE2, HBk2⟩ := hrel
                  have u0 : wrap64 (50 * (c : Int) + (k : Int)) = 50 * (c : Int) + (k : Int) := wrap_in (InI.mk (by omega) (by omega))
                  by_cases hk50 : k < 50 ∧ 50 * c + k ≤ 4000
                  · obtain ⟨q1, q2⟩ := hk50
                    have k1 : (k : Int) < 50 := by omega
                    have k2 : 50 * (c : Int) + (k : Int) ≤ 4000 := by omega
                    have u1 : wrap64 (D + 50 * (c : Int) + (k : Int)) = D + 50 * (c : Int) + (k : Int) := wrap_in (InI.mk (by omega) (by omega))
                    have U2 := Lib.hid (show IntKind.i64.wrap (D + 50 * (c : Int)) = D + 50 * (c : Int) from IntWalk.i64_in _ (by omega))
                    have U3 := Lib.hid (show IntKind.i64.wrap (D + 50 * (c : Int) + (k : Int)) = D + 50 * (c : Int) + (k : Int) from IntWalk.i64_in _ (by omega))
                    have CTn := Lib.hid (fun w0 => CT.out (D + 50 * (c : Int) + (k : Int)) w0)
                    have HFU := Lib.hid (show 4001 - 50 * c - k = (4001 - 50 * c - (k + 1)) + 1 by omega)
                    cases ht : thereB (D + 50 * (c : Int) + (k : Int)) with
                    | false =>
                      have HR4 : Hid (aftR H a n = (0, 4)) := Lib.hid (by rw [HE2.out, HFU.out, aftS_out ht])
                      rw [ht] at CTn
                      clear ht
                      go_wp2_with (go_at_call 32; (with_reducible refine (CTn.out _).mono ?_); rintro e w7 ⟨rfl, hb7⟩; have HB7 := Lib.hid (thenB HBk2.out hb7); clear hb7)
                      go_ret2
                      exact ⟨by rw [HR4.out]; rfl, thenB HB0.out (thenB HBX.out HB7.out)⟩
                    | true =>
                      have hddb := HW.out _ ht
                      obtain ⟨hok, hlen⟩ := HDB.out (D + 50 * (c : Int) + (k : Int))
                      obtain ⟨gg, rfl, -, hgl, hcl⟩ := HVX.out.at q1
                      obtain ⟨LL, hLL⟩ : ∃ LL, dayL H (D + 50 * (c : Int) + (k : Int)) = LL := ⟨_, rfl⟩
                      have HHIT : Hid (∀ t x, aftD a (D + 50 * (c : Int) + (k : Int)) LL N2 = (some t, x) → aftR H a n = (t, 0)) := Lib.hid fun t x h => by rw [HE2.out, HFU.out]; exact aftS_hit ht (by rw [hLL]; exact h)
                      have HNXT : Hid (∀ x, aftD a (D + 50 * (c : Int) + (k : Int)) LL N2 = (none, x) → aftR H a n = aftS H a (4001 - 50 * c - (k + 1)) (D + 50 * (c : Int) + ((k + 1 : Nat) : Int)) x) := Lib.hid fun x h => by rw [HE2.out, HFU.out, aftS_next ht (by rw [hLL]; exact h), show D + 50 * (c : Int) + ((k + 1 : Nat) : Int) = D + 50 * (c : Int) + (k : Int) + 1 by omega]
                      have HLL := Lib.hid hLL
                      rw [hLL] at hok hlen
                      obtain ⟨LN, hLN⟩ : ∃ LN, LL.length = LN := ⟨_, rfl⟩
                      have HLN := Lib.hid hLN
                      rw [hLN] at hlen
                      have HOK := Lib.hid hok
                      have HGL := Lib.hid (And.intro hgl hcl)
                      rw [ht] at CTn
                      clear ht hLL hLN hok hgl hcl
                      go_upto_region 20 with (go_at_call 32; (with_reducible refine (CTn.out _).mono ?_); rintro e w7 ⟨rfl, hb7⟩; have HB7 := Lib.hid (thenB HBk2.out hb7); clear hb7)
                      have hvs := HDV.out _ (thenB HBX.out HB7.out) (D + 50 * (c : Int) + (k : Int))
                      rw [HLL.out] at hvs
                      obtain ⟨od, cd, hvd⟩ := hvs.form
                      rw [hvd, HLN.out] at hvs
                      have p1 := (HB7.out.cell (p := ⟨gg, k, none⟩) HGL.out.1).trans HGL.out.2
                      rw [hvd, HLN.out] at p1
                      have p2 := (HB7.out.cell (p := ⟨z, 1, none⟩) HCZ.out.2).trans HCZ.out.1
                      have HVS := Lib.hid hvs
                      clear hvs hvd u0 u1
                      go_wp2_with fail
                      clear p1 p2
                      go_loopw [2, 77] (fun v jj wz => ∃ (N3 : Int) (j : Nat), v = .int .i64 N3 ∧ jj = .int .i64 (j : Int) ∧ j ≤ LN ∧ 1 ≤ N3 ∧ N3 ≤ n ∧ Hid (aftD a (D + 50 * (c : Int) + (k : Int)) LL N2 = aftD a (D + 50 * (c : Int) + (k : Int)) (LL.drop j) N3) ∧ Hid (Below w7.heap.size w7 wz)) (fun _ jj _ => LN - (intOf jj).toNat)
                      case atStart => exact ⟨N2, 0, rfl, by simp, by omega, c1, c2, Lib.hid (by simp), Lib.hid (Below.refl _ _)⟩
                      case round =>
                        obtain ⟨N3, j, rfl, rfl, hj, d1, d2, HN3, HBz⟩ := hrel
                        by_cases hjl : j < LN
                        · obtain ⟨g, rfl, hgb, p1, p2⟩ := (HVS.out.call (HBz.out.mono (Nat.le_trans HBB.out (thenB HBX.out HB7.out).size))).at (show j < LL.length by rw [HLN.out]; exact hjl)
                          obtain ⟨s1, s2, s3, -⟩ := HOK.out j (by rw [HLN.out]; exact hjl)
                          have HAT := Lib.hid (HN3.out.trans (aftD_at (a := a) (d := (D + 50 * (c : Int) + (k : Int))) (n := N3) (show j < LL.length by rw [HLN.out]; exact hjl)))
                          obtain ⟨⟨F, G⟩, hFG⟩ : ∃ p : Int × Int, LL.getD j (0, 0) = p := ⟨_, rfl⟩
                          rw [hFG] at p1 p2 s1 s2 s3 HAT
                          simp only at p1 p2 s1 s2 s3 HAT
                          rw [show ((D + 50 * (c : Int) + (k : Int)) * 1440 + F) * 60 = (D + 50 * (c : Int) + (k : Int)) * 86400 + F * 60 by omega, show ((D + 50 * (c : Int) + (k : Int)) * 1440 + G) * 60 = (D + 50 * (c : Int) + (k : Int)) * 86400 + G * 60 by omega] at HAT
                          obtain ⟨la1, la2⟩ := lab
                          have hNI := HNI.out
                          have m1 : (j : Int) < (LN : Int) := by omega
                          have m2 : (0 : Int) ≤ (j : Int) := by omega
                          clear hFG hgb
                          go_upto_region 23 with fail
                          obtain ⟨wA, hwA⟩ : ∃ W, wr.alloc (.cells #[.int .i64 F, .int .i64 G] 47) = W := ⟨_, rfl⟩
                          have hA : Below wr.heap.size wr wA := by rw [← hwA]; exact (Below.refl _ _).alloc (Nat.le_refl _) _
                          have HBA := Lib.hid (thenB HBz.out hA)
                          obtain ⟨z16, hz16⟩ : ∃ z, wr.heap.size = z := ⟨_, rfl⟩
                          have r0 : wA.cell? ⟨z16, 0, none⟩ = some (.int .i64 F) := by rw [← hwA, ← hz16]; simp
                          have r1 : wA.cell? ⟨z16, 1, none⟩ = some (.int .i64 G) := by rw [← hwA, ← hz16]; simp
                          simp only [hwA, hz16]
                          have e1 : IntKind.i64.wrap ((D + 50 * (c : Int) + (k : Int)) * 86400) = (D + 50 * (c : Int) + (k : Int)) * 86400 := IntWalk.i64_in _ (by omega)
                          have e2 : IntKind.i64.wrap (F * 60) = F * 60 := IntWalk.i64_in _ (by omega)
                          have e3 : IntKind.i64.wrap (G * 60) = G * 60 := IntWalk.i64_in _ (by omega)
                          have e4 : IntKind.i64.wrap ((D + 50 * (c : Int) + (k : Int)) * 86400 + F * 60) = (D + 50 * (c : Int) + (k : Int)) * 86400 + F * 60 := IntWalk.i64_in _ (by omega)
                          have e5 : IntKind.i64.wrap ((D + 50 * (c : Int) + (k : Int)) * 86400 + G * 60) = (D + 50 * (c : Int) + (k : Int)) * 86400 + G * 60 := IntWalk.i64_in _ (by omega)
                          have hXb : -400000000000 ≤ max a ((D + 50 * (c : Int) + (k : Int)) * 86400 + F * 60) ∧ max a ((D + 50 * (c : Int) + (k : Int)) * 86400 + F * 60) ≤ 400000000000 ∧ -400000000000 ≤ (D + 50 * (c : Int) + (k : Int)) * 86400 + G * 60 ∧ (D + 50 * (c : Int) + (k : Int)) * 86400 + G * 60 ≤ 400000000000 := by omega
                          have e6 := U2.out
                          have e7 := U3.out
                          clear hA hwA hz16 p1 p2
                          go_quiet (fail)
                          have HBQ := Lib.hid (belowN HBA.out nq)
                          clear e1 e2 e3 e4 e5 e6 e7 r0 r1
                          obtain ⟨X, hX⟩ : ∃ X, max a ((D + 50 * (c : Int) + (k : Int)) * 86400 + F * 60) = X := ⟨_, rfl⟩
                          obtain ⟨Y, hY⟩ : ∃ Y, (D + 50 * (c : Int) + (k : Int)) * 86400 + G * 60 = Y := ⟨_, rfl⟩
                          rw [hX, hY] at hXb HAT
                          simp only [hX, hY]
                          clear hX hY
                          have t1 : wrap64 (Y - X) = Y - X := wrap_in (InI.mk (by omega) (by omega))
                          by_cases hit : N3 ≤ Y - X
                          · have HR := Lib.hid (HHIT.out (X + N3) 0 (HAT.out.trans (if_pos hit)))
                            have t2 : wrap64 (X + N3) = X + N3 := wrap_in (InI.mk (by omega) (by omega))
                            go_wp2_with fail
                            go_ret2
                            exact ⟨by rw [HR.out]; rfl, thenB HB0.out (thenB HBX.out (thenB HB7.out HBQ.out))⟩
                          · have HN4 := Lib.hid (HAT.out.trans (if_neg hit))
                            have t3 : wrap64 (N3 - max 0 (Y - X)) = N3 - max 0 (Y - X) := wrap_in ⟨by omega, by omega⟩
                            have t4 : 1 ≤ N3 - max 0 (Y - X) ∧ N3 - max 0 (Y - X) ≤ n := by omega
                            have T4 := Lib.hid t4
                            have dh : decide (N3 ≤ Y - X) = false := decide_eq_false hit
                            clear t4 hit
                            go_wp2_with fail
                            clear t1 t3 dh
                            go_roundw
                            case rel => exact ⟨_, j + 1, rfl, by go_num, by omega, T4.out.1, T4.out.2, HN4, HBQ⟩
                            case measure => simp [intOf]; omega
                        · have hjn : j = LN := by omega
                          subst hjn
                          have HN4 := Lib.hid (HNXT.out N3 (HN3.out.trans (by rw [List.drop_of_length_le (by rw [HLN.out]; exact Nat.le_refl _)]; rfl)))
                          have HB8 := Lib.hid (thenB HB7.out HBz.out)
                          go_wp2_with fail
                          go_roundw
                          case rel => first | exact ⟨N3, k + 1, rfl, by go_num, by omega, by omega, d1, d2, by omega, HN4, HB8⟩ | ((repeat apply Exists.intro); exact ⟨⟨rfl, by go_num, by omega, by omega, d1, d2, by omega, HN4, HB8⟩, rfl⟩)
                          case measure => simp [intOf]; omega
                  · have HB8 := Lib.hid (thenB HBX.out HBk2.out)
                    by_cases hk5 : k < 50
                    · have hlast : 50 * c + k = 4001 := by omega
                      have HR12 : Hid (aftR H a n = (0, 12)) := Lib.hid (by rw [HE2.out, show 4001 - 50 * c - k = 0 by omega]; rfl)
                      have hk1 : (k : Int) < 50 := by omega
                      have hk2 : ¬ 50 * (c : Int) + (k : Int) ≤ 4000 := by omega
                      have HE3 : Hid (aftR H a n = aftS H a (4001 - 50 * (c + 1)) (D + 50 * ((c + 1 : Nat) : Int)) N2) := Lib.hid (by rw [HR12.out, show 4001 - 50 * (c + 1) = 0 by omega]; rfl)
                      have u5 : wrap64 (50 * (c : Int) + 50) = 50 * (c : Int) + 50 := wrap_in (InI.mk (by omega) (by omega))
                      have hk2' : decide (50 * (c : Int) + (k : Int) ≤ 4000) = false := decide_eq_false hk2
                      clear hk50
                      go_wp2_with fail
                      clear u5 u0
                      go_roundw
                      case rel => exact ⟨N2, c + 1, rfl, by congr 1 <;> omega, by omega, c1, c2, .inr (by omega), HE3, HB8⟩
                      case measure => simp [intOf]; omega
                    · have hkk : k = 50 := by omega
                      subst hkk
                      have u5 : wrap64 (50 * (c : Int) + 50) = 50 * (c : Int) + 50 := wrap_in (InI.mk (by omega) (by omega))
                      have HE3 : Hid (aftR H a n = aftS H a (4001 - 50 * (c + 1)) (D + 50 * ((c + 1 : Nat) : Int)) N2) := Lib.hid (by rw [HE2.out, show 4001 - 50 * c - 50 = 4001 - 50 * (c + 1) by omega, show D + 50 * ((c + 1 : Nat) : Int) = D + 50 * (c : Int) + ((50 : Nat) : Int) by omega])
                      clear hk50 u0
                      go_wp2_with fail
                      clear u5
                      go_roundw
                      case rel => exact ⟨N2, c + 1, rfl, by congr 1 <;> omega, by omega, c1, c2, .inl (by omega), HE3, HB8⟩
                      case measure => simp [intOf]; omega
              · have e : c = 81 := by omega
                subst e
                have HR12 : Hid (aftR H a n = (0, 12)) := Lib.hid (by rw [HE1.out]; rfl)
                go_wp2_with fail
                go_ret2
                exact ⟨by rw [HR12.out]; rfl, thenB HB0.out HBk.out⟩
    · have h4 := loc_four hla
      have hs := stE_loc hc hla
      have HE : Hid (aftR H a n = (0, 4)) := Lib.hid (by unfold aftR; rw [if_pos (by rw [hs]; exact hla), hs, h4])
      rw [h4] at CSa
      unfold hoursV at CC
      unfold hoursV
      clear h4 hs hla hb0 hlt hR hB hc ia
      go_enter Tryz.func16, Tryz.ntmps16
      go_wp2_with (first | (go_at_call 11; refine (CC.out).mono ?_; rintro e w2 ⟨rfl, hb2⟩; have HB2 := Lib.hid hb2; clear hb2) | (go_at_call 31; (with_reducible refine (CSa.out _).mono ?_); rintro e w3 ⟨rfl, rfl⟩))
      go_ret2
      exact ⟨by rw [HE.out]; rfl, thenB HB0.out HB2.out⟩
  · have HE := Lib.hid (show aftR H a n = (0, chk H) from (if_pos (by rw [stE_bad hc]; exact hc)).trans (by rw [stE_bad hc]))
    obtain ⟨E, hE⟩ : ∃ E, chk H = E := ⟨_, rfl⟩
    rw [hE] at CC HE hc
    have bE : (E == 0) = false := by simpa using hc
    have bE2 : (E != 0) = true := by simpa using hc
    unfold hoursV at CC
    unfold hoursV
    clear hb0 hlt hR hB hc hE
    go_enter Tryz.func16, Tryz.ntmps16
    go_wp2_with (go_at_call 11; refine (CC.out).mono ?_; rintro e w2 ⟨rfl, hb2⟩; have HB2 := Lib.hid hb2; clear hb2)
    go_ret2
    exact ⟨by rw [HE.out]; rfl, thenB HB0.out HB2.out⟩
end Go.Proofs.YtbgcccfgcdkmdaaGreatDoor
namespace Go.Proofs.YtbgcccfgcdkmdaaGreatDoor
open Go.RowKit Wrk
set_option maxRecDepth 100000 in
set_option maxHeartbeats 8000000 in
theorem plainAfter_any (B : Nat) (H : Hrs) (s : Nat → Value) (vh : Value) (a n : Int) (w : World) (hT : ErrT w) (hr : RomanT w) (hR : HrsR B w s vh H) (hB : B ≤ w.heap.size) (hni : InI n) : Calls Tryz.prog 15 #[hoursV s vh, .int .i64 a, .int .i64 n] w (AftPost H a n (Value.int .i64) w) := by
  obtain ⟨wB, hwB, ⟨hb0, hlt⟩, f0, f1, f2, f3, f4, f5, f6, f7⟩ := hours_cells s vh w
  have HB0 := Lib.hid hb0
  have HLT := Lib.hid hlt
  have CC := Lib.hid (workAfter_any B H s vh a n wB (RomanT.call hr hb0) (hR.call (hb0.mono hB)) (Nat.le_trans hB hb0.size) hni)
  have HT := Lib.hid (hT.call hb0)
  unfold hoursV at CC
  unfold hoursV
  unfold AftPost at CC ⊢
  clear hb0 hlt hr hR hB hT
  go_enter Tryz.func15, Tryz.ntmps15
  go_wp2_with (first
    | (go_at_call 34; refine (CC.out).mono ?_; rintro e w2 ⟨rfl, hb2⟩; have HB2 := Lib.hid hb2; have HT2 := Lib.hid (HT.out.call hb2); clear hb2)
    | (go_at_call 26; refine (tell_any _ _ HT2.out).mono ?_; rintro e w3 ⟨rfl, hb3⟩; have HB3 := Lib.hid hb3; clear hb3))
  go_ret2
  exact ⟨rfl, thenB HB0.out (thenB HB2.out HB3.out)⟩
set_option maxRecDepth 100000 in
set_option maxHeartbeats 16000000 in
theorem workTimes_walk (s : Nat → Value) (vh : Value) (H : Hrs) (a b n : Int) (w : World) (hT : ErrT w) (hr : RomanT w) (hR : HrsR w.heap.size w s vh H) (ia : InI a) (ib : InI b) (hn : InI n) : Calls Tryz.prog 4 #[hoursV s vh, .int .i64 a, .int .i64 b, .int .i64 n] w fun e w' => e = .returned (.bool true) ∧ Below w.heap.size w w' := by
  obtain ⟨wB, hwB, ⟨hb0, hlt⟩, f0, f1, f2, f3, f4, f5, f6, f7⟩ := hours_cells s vh w
  have HB0 := Lib.hid hb0
  have HLT := Lib.hid hlt
  have HS : Hid (∀ w', Below wB.heap.size wB w' → (w'.cell? ⟨w.heap.size, 0, none⟩ = some (s 0) ∧ w'.cell? ⟨w.heap.size, 1, none⟩ = some (s 1) ∧ w'.cell? ⟨w.heap.size, 2, none⟩ = some (s 2) ∧ w'.cell? ⟨w.heap.size, 3, none⟩ = some (s 3) ∧ w'.cell? ⟨w.heap.size, 4, none⟩ = some (s 4) ∧ w'.cell? ⟨w.heap.size, 5, none⟩ = some (s 5) ∧ w'.cell? ⟨w.heap.size, 6, none⟩ = some (s 6) ∧ w'.cell? ⟨w.heap.size, 7, none⟩ = some vh)) := Lib.hid fun w' hb => ⟨(hb.cell (p := ⟨w.heap.size, 0, none⟩) HLT.out).trans f0, (hb.cell (p := ⟨w.heap.size, 1, none⟩) HLT.out).trans f1, (hb.cell (p := ⟨w.heap.size, 2, none⟩) HLT.out).trans f2, (hb.cell (p := ⟨w.heap.size, 3, none⟩) HLT.out).trans f3, (hb.cell (p := ⟨w.heap.size, 4, none⟩) HLT.out).trans f4, (hb.cell (p := ⟨w.heap.size, 5, none⟩) HLT.out).trans f5, (hb.cell (p := ⟨w.heap.size, 6, none⟩) HLT.out).trans f6, (hb.cell (p := ⟨w.heap.size, 7, none⟩) HLT.out).trans f7⟩
  have hBB := Nat.le_trans (Nat.le_refl w.heap.size) hb0.size
  have P1 := Lib.hid (fun w0 (hb : Below wB.heap.size wB w0) => plainBetween_any w.heap.size H s vh a b w0 ((hT.call hb0).call hb) (RomanT.call (RomanT.call hr hb0) hb) ((hR.call hb0).call (hb.mono hBB)) (Nat.le_trans hBB hb.size))
  have P2 := Lib.hid (fun w0 (hb : Below wB.heap.size wB w0) => rWorkBetween_any w.heap.size H s vh a b w0 ((hR.call hb0).call (hb.mono hBB)) (Nat.le_trans hBB hb.size) ia ib)
  have P3 := Lib.hid (fun w0 (hb : Below wB.heap.size wB w0) => plainAfter_any w.heap.size H s vh a n w0 ((hT.call hb0).call hb) (RomanT.call (RomanT.call hr hb0) hb) ((hR.call hb0).call (hb.mono hBB)) (Nat.le_trans hBB hb.size) hn)
  have P4 := Lib.hid (fun w0 (hb : Below wB.heap.size wB w0) => rWorkAfter_any w.heap.size H s vh a n w0 ((hR.call hb0).call (hb.mono hBB)) (Nat.le_trans hBB hb.size) ia hn)
  unfold BtPost at P1 P2
  unfold AftPost at P3 P4
  obtain ⟨A, hA⟩ : ∃ A, btR H a b = A := ⟨_, rfl⟩
  rw [hA] at P1 P2
  obtain ⟨C, hC⟩ : ∃ C, aftR H a n = C := ⟨_, rfl⟩
  rw [hC] at P3 P4
  obtain ⟨A1, A2⟩ := A
  obtain ⟨C1, C2⟩ := C
  simp only at P1 P2 P3 P4
  unfold hoursV at P1 P2 P3 P4
  unfold hoursV
  have q2 : (A1 == A1) = true := beq_self_eq_true _
  have q3 : (A2 == A2) = true := beq_self_eq_true _
  have q4 : (C1 == C1) = true := beq_self_eq_true _
  have q5 : (C2 == C2) = true := beq_self_eq_true _
  clear hb0 hlt hr hR hT hBB hn ia ib hA hC
  go_enter Tryz.func4, Tryz.ntmps4
  go_upto_region 2 with (go_at_call 13; (with_reducible refine (P1.out _ (Below.refl _ _)).mono ?_); rintro e w2 ⟨rfl, hb2⟩; have HB2 := Lib.hid hb2; clear hb2)
  clear f0 f1 f2 f3 f4 f5 f6 f7 hwB
  obtain ⟨g0, g1, g2, g3, g4, g5, g6, g7⟩ := HS.out _ HB2.out
  go_upto_region 3 with (go_at_call 14; (with_reducible refine (P2.out _ HB2.out).mono ?_); rintro e w3 ⟨rfl, hb3⟩; have HB3 := Lib.hid (thenB HB2.out hb3); clear hb3)
  clear g0 g1 g2 g3 g4 g5 g6 g7
  obtain ⟨g0, g1, g2, g3, g4, g5, g6, g7⟩ := HS.out _ HB3.out
  go_upto_region 4 with (go_at_call 15; (with_reducible refine (P3.out _ HB3.out).mono ?_); rintro e w4 ⟨rfl, hb4⟩; have HB4 := Lib.hid (thenB HB3.out hb4); clear hb4)
  clear g0 g1 g2 g3 g4 g5 g6 g7
  obtain ⟨g0, g1, g2, g3, g4, g5, g6, g7⟩ := HS.out _ HB4.out
  go_upto_region 5 with (go_at_call 16; (with_reducible refine (P4.out _ HB4.out).mono ?_); rintro e w5 ⟨rfl, hb5⟩; have HB5 := Lib.hid (thenB HB4.out hb5); clear hb5)
  clear g0 g1 g2 g3 g4 g5 g6 g7
  go_wp2_with fail
  go_ret
  exact ⟨rfl, thenB HB0.out HB5.out⟩
end Go.Proofs.YtbgcccfgcdkmdaaGreatDoor
