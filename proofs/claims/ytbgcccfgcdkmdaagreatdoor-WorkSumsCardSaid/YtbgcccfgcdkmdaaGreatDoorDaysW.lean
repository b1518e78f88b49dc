/- Easter: the program's and the document's; the laws DaysEasters and DaysEaster. -/
import Derived.Test.YtbgcccfgcdkmdaaGreatDoorDaysU
import Derived.Test.YtbgcccfgcdkmdaaGreatDoorDaysSw
namespace Dm
/-- The moon's age, in the east and in the west. -/
def epE (y : Int) : Int := (14 + 11 * (y % 19)) % 30
def epW0 (y : Int) : Int := (14 + 11 * (y % 19) - 3 * (y / 100 + 1) / 4 + (5 + 8 * (y / 100 + 1)) / 25) % 30
def epW (y : Int) : Int := if epW0 y = 0 ∨ epW0 y = 1 ∧ 10 < y % 19 then epW0 y + 1 else epW0 y
def ep (east : Bool) (y : Int) : Int := if east then epE y else epW y
def calE (east : Bool) : Int := if east then 2 else 1
theorem calE_bd (east : Bool) : 1 ≤ calE east ∧ calE east ≤ 2 := by cases east <;> decide
theorem ep_bd (east : Bool) (y : Int) : 1 ≤ ep east y ∧ ep east y ≤ 29 := by
  cases east
  · show 1 ≤ epW y ∧ epW y ≤ 29
    unfold epW
    have h : 0 ≤ epW0 y ∧ epW0 y ≤ 29 := by unfold epW0; omega
    split <;> omega
  · show 1 ≤ epE y ∧ epE y ≤ 29
    unfold epE
    generalize hk : y % 19 = k
    have : 0 ≤ k ∧ k ≤ 18 := by omega
    omega
/-- The full moon, and the Sunday behind it. -/
def full (east : Bool) (y : Int) : Int := dayOf (calE east) y 4 19 - ep east y
def sunday (n : Int) : Int := n + 7 - wd n % 7
theorem sunday_wd (n : Int) : wd (sunday n) = 7 := by unfold sunday wd; omega
theorem sunday_bd (n : Int) : n + 1 ≤ sunday n ∧ sunday n ≤ n + 7 := by unfold sunday wd; omega
theorem month4 (c y : Int) (h1 : 1 ≤ c) (h2 : c ≤ 2) : length c y 4 = 30 ∧ length c y 3 = 31 ∧ months c y = 12 := by
  have hc : c = 1 ∨ c = 2 := by omega
  rcases hc with rfl | rfl <;> exact ⟨by simp [length, roman], by simp [length, roman], by simp [months]⟩
theorem valid4 (c y d : Int) (h1 : 1 ≤ c) (h2 : c ≤ 2) (hy1 : 1 ≤ y) (hy2 : y ≤ 20000) (d1 : 1 ≤ d) (d2 : d ≤ 30) : Valid c y 4 d := by
  obtain ⟨m4, m3, m⟩ := month4 c y h1 h2
  exact ⟨by omega, hy2, by omega, by omega, d1, by omega⟩
theorem valid3 (c y d : Int) (h1 : 1 ≤ c) (h2 : c ≤ 2) (hy1 : 1 ≤ y) (hy2 : y ≤ 20000) (d1 : 1 ≤ d) (d2 : d ≤ 31) : Valid c y 3 d := by
  obtain ⟨m4, m3, m⟩ := month4 c y h1 h2
  exact ⟨by omega, hy2, by omega, by omega, d1, by omega⟩
theorem day34 (c y d : Int) (h1 : 1 ≤ c) (h2 : c ≤ 2) : dayOf c y 4 d = dayOf c y 3 (d + 31) := by
  obtain ⟨m4, m3, m⟩ := month4 c y h1 h2
  have hu := upTo_at c y 3 (by omega)
  have e1 : (3 : Int).toNat = 3 := rfl
  have e2 : ((3 : Int) - 1).toNat = 2 := rfl
  have e3 : ((4 : Int) - 1).toNat = 3 := rfl
  rw [e1, e2, m3] at hu
  unfold dayOf
  rw [e2, e3, hu]
  omega
theorem dayOf_add (c y m d k : Int) : dayOf c y m (d + k) = dayOf c y m d + k := by unfold dayOf; omega
/-- Easter lies from 22 March to 25 April. -/
theorem easter_date (east : Bool) (y : Int) (hy1 : 1 ≤ y) (hy2 : y ≤ 20000) : ∃ m d, Valid (calE east) y m d ∧ dayOf (calE east) y m d = sunday (full east y) ∧ (m = 3 ∧ 22 ≤ d ∨ m = 4 ∧ d ≤ 25) := by
  have hb := calE_bd east
  have he := ep_bd east y
  have hs := sunday_bd (full east y)
  obtain ⟨k, hk⟩ : ∃ k, sunday (full east y) = full east y + k := ⟨sunday (full east y) - full east y, by omega⟩
  rw [hk] at hs
  by_cases h : 1 ≤ 19 - ep east y + k
  · refine ⟨4, 19 - ep east y + k, valid4 _ _ _ hb.1 hb.2 hy1 hy2 h (by omega), ?_, .inr ⟨rfl, by omega⟩⟩
    rw [hk]
    unfold full
    have := dayOf_add (calE east) y 4 19 (k - ep east y)
    rw [show 19 - ep east y + k = 19 + (k - ep east y) by omega, this]
    omega
  · refine ⟨3, 19 - ep east y + k + 31, valid3 _ _ _ hb.1 hb.2 hy1 hy2 (by omega) (by omega), ?_, .inl ⟨rfl, by omega⟩⟩
    rw [hk, ← day34 _ _ _ hb.1 hb.2]
    unfold full
    have := dayOf_add (calE east) y 4 19 (k - ep east y)
    rw [show 19 - ep east y + k = 19 + (k - ep east y) by omega, this]
    omega
theorem full_bd (east : Bool) (y : Int) (hy1 : 1 ≤ y) (hy2 : y ≤ 20000) : -800000 ≤ full east y ∧ full east y ≤ 12000000 ∧ -800000 ≤ dayOf (calE east) y 4 19 ∧ dayOf (calE east) y 4 19 ≤ 12000000 := by
  have hb := calE_bd east
  have he := ep_bd east y
  have l := lin_start (calE east) y (by omega) (by omega)
  unfold Lin at l
  have hf : first (calE east) = -719162 ∨ first (calE east) = -719164 := by cases east <;> simp [calE, first]
  have hu := upTo_bd (calE east) y ((4 : Int) - 1).toNat
  have e3 : ((4 : Int) - 1).toNat = 3 := rfl
  rw [e3] at hu
  have hs := start_bd (calE east) y (by omega) (by omega) (by omega) (by omega)
  unfold full dayOf
  rw [e3]
  omega
theorem full_small (east : Bool) (y : Int) (hy1 : 1 ≤ y) (hy2 : y ≤ 10000) : dayOf (calE east) y 4 19 ≤ 3900000 := by
  have hb := calE_bd east
  have l := lin_start (calE east) y (by omega) (by omega)
  unfold Lin at l
  have hf : first (calE east) = -719162 ∨ first (calE east) = -719164 := by cases east <;> simp [calE, first]
  have hu := upTo_bd (calE east) y ((4 : Int) - 1).toNat
  have e3 : ((4 : Int) - 1).toNat = 3 := rfl
  rw [e3] at hu
  unfold dayOf
  rw [e3]
  omega
end Dm
namespace Go.Proofs.YtbgcccfgcdkmdaaGreatDoor
open Go.RowKit
/-- Easter and what is wrong with its year. -/
def EasR (east : Bool) (y r x : Int) : Prop := ((y < 1 ∨ 20000 < y) ∧ r = 0 ∧ x = 4) ∨ (1 ≤ y ∧ y ≤ 20000 ∧ 4000000 < Dm.dayOf (Dm.calE east) y 4 19 ∧ r = 0 ∧ x = 4) ∨ (1 ≤ y ∧ y ≤ 20000 ∧ Dm.dayOf (Dm.calE east) y 4 19 ≤ 4000000 ∧ r = rangeR (Dm.sunday (Dm.full east y)) ∧ x = rangeE (Dm.sunday (Dm.full east y)))
theorem EasR.one {east : Bool} {y r x r' x' : Int} (h : EasR east y r x) (h' : EasR east y r' x') : r = r' ∧ x = x' := by
  unfold EasR at h h'
  rcases h with ⟨a, rfl, rfl⟩ | ⟨a, b, c, rfl, rfl⟩ | ⟨a, b, c, rfl, rfl⟩ <;> rcases h' with ⟨a', rfl, rfl⟩ | ⟨a', b', c', rfl, rfl⟩ | ⟨a', b', c', rfl, rfl⟩ <;> first | exact ⟨rfl, rfl⟩ | omega
theorem day419 {c y : Int} (h1 : 1 ≤ c) (h2 : c ≤ 2) (hy1 : 1 ≤ y) (hy2 : y ≤ 20000) : dayE c y 4 19 = rangeE (Dm.dayOf c y 4 19) ∧ dayR c y 4 19 = rangeR (Dm.dayOf c y 4 19) := by
  have hv := Dm.valid4 c y 19 h1 h2 hy1 hy2 (by omega) (by omega)
  exact dayE_ok (lenE_valid (by omega) (by omega) hv) hv.2.2.2.2.1 hv.2.2.2.2.2
def EasPost (east : Bool) (y : Int) (w : World) (er : Int → Value) (e : Ending) (w' : World) : Prop := ∃ r x, e = .returned (.tuple #[.int .i64 r, er x]) ∧ EasR east y r x ∧ Below w.heap.size w w'
set_option maxHeartbeats 1000000 in
theorem easter_bad (y : Int) (east : Bool) (w : World) (h : y < 1 ∨ 20000 < y) : Calls Tryz.prog 82 #[.int .i64 y, .bool east] w (EasPost east y w errV) := by
  rcases h with h | h
  all_goals
    try have h' : ¬ y < 1 := by omega
    go_enter Tryz.func82, Tryz.ntmps82
    go_wp2_with fail
    go_ret2
    exact ⟨0, 4, rfl, .inl ⟨by omega, rfl, rfl⟩, Below.refl _ _⟩
set_option maxRecDepth 100000 in
set_option maxRecDepth 100000 in
set_option maxRecDepth 100000 in
set_option maxHeartbeats 2000000 in
theorem easter_east (y : Int) (w : World) (hr : RomanT w) (h1 : 1 ≤ y) (h2 : y ≤ 20000) : Calls Tryz.prog 82 #[.int .i64 y, .bool true] w (EasPost true y w errV) := by
  have HR := Lib.hid hr; clear hr
  have hb := Dm.full_bd true y h1 h2
  have hep := Dm.ep_bd true y
  rw [show Dm.calE true = 2 from rfl] at hb
  have hd := day419 (c := 2) (y := y) (by omega) (by omega) h1 h2
  obtain ⟨D, hD0⟩ : ∃ D, Dm.dayOf 2 y 4 19 = D := ⟨_, rfl⟩
  rw [hD0] at hb hd
  go_enter Tryz.func82, Tryz.ntmps82
  go_wp2_with fail
  obtain ⟨E, hE0⟩ : ∃ E, Dm.ep true y = E := ⟨_, rfl⟩
  rw [show (14 + 11 * (y % 19)) % 30 = E from hE0]
  have hF : Dm.full true y = D - E := by unfold Dm.full; rw [show Dm.calE true = 2 from rfl, hD0, hE0]
  rw [hF] at hb
  rw [hE0] at hep
  have HF := Lib.hid (And.intro hF hD0); clear hF hD0 hE0
  by_cases hg : D ≤ 4000000
  · rw [(range_in (by omega) hg).1, (range_in (by omega) hg).2] at hd
    have HD := Lib.hid hd; clear hd
    refine (day_all _ _ _ _ _ (HR.out.alloc _)).mono ?_; rintro en w1 ⟨rfl, hb1⟩
    rw [HD.out.1, HD.out.2, errV_nil]
    have HB1 := Lib.hid (offA hb1); clear hb1
    have hwb := Dm.wd_bd (D - E)
    obtain ⟨W, hW0⟩ : ∃ W, Dm.wd (D - E) = W := ⟨_, rfl⟩
    rw [hW0] at hwb
    have hS : Dm.sunday (Dm.full true y) = D - E + 7 - W % 7 := by rw [HF.out.1]; unfold Dm.sunday; rw [hW0]
    have HW := Lib.hid (And.intro hW0 hS); clear hW0 hS
    by_cases hs : D - E + 7 - W % 7 ≤ 4000000
    · go_wp2_with fail
      refine (weekday_any _ _ (InI.mk (by omega) (by omega))).mono ?_; rintro e w' ⟨rfl, rfl⟩
      rw [HW.out.1]
      go_wp2_with fail
      go_ret2
      exact ⟨_, 0, rfl, .inr (.inr ⟨h1, h2, by rw [show Dm.calE true = 2 from rfl, HF.out.2]; exact hg, by rw [HW.out.2]; exact (range_in (by omega) hs).1.symm, by rw [HW.out.2]; exact (range_in (by omega) hs).2.symm⟩), HB1.out⟩
    · go_wp2_with fail
      refine (weekday_any _ _ (InI.mk (by omega) (by omega))).mono ?_; rintro e w' ⟨rfl, rfl⟩
      rw [HW.out.1]
      go_wp2_with fail
      go_ret2
      exact ⟨0, 4, rfl, .inr (.inr ⟨h1, h2, by rw [show Dm.calE true = 2 from rfl, HF.out.2]; exact hg, by rw [HW.out.2]; exact (range_out (by omega)).1.symm, by rw [HW.out.2]; exact (range_out (by omega)).2.symm⟩), HB1.out⟩
  · rw [(range_out (by omega)).1, (range_out (by omega)).2] at hd
    have HD := Lib.hid hd; clear hd
    refine (day_all _ _ _ _ _ (HR.out.alloc _)).mono ?_; rintro en w1 ⟨rfl, hb1⟩
    rw [HD.out.1, HD.out.2, errV_hit (show (4 : Int) ≠ 0 by decide)]
    have HB1 := Lib.hid (offA hb1); clear hb1
    go_wp2_with fail
    go_ret2
    exact ⟨0, 4, rfl, .inr (.inl ⟨h1, h2, by rw [show Dm.calE true = 2 from rfl, HF.out.2]; omega, rfl, rfl⟩), HB1.out⟩
set_option maxRecDepth 100000 in
set_option maxHeartbeats 4000000 in
theorem easter_west (y : Int) (w : World) (hr : RomanT w) (h1 : 1 ≤ y) (h2 : y ≤ 20000) : Calls Tryz.prog 82 #[.int .i64 y, .bool false] w (EasPost false y w errV) := by
  have HR := Lib.hid hr; clear hr
  have hb := Dm.full_bd false y h1 h2
  have hep := Dm.ep_bd false y
  rw [show Dm.calE false = 1 from rfl] at hb
  have hd := day419 (c := 1) (y := y) (by omega) (by omega) h1 h2
  obtain ⟨D, hD0⟩ : ∃ D, Dm.dayOf 1 y 4 19 = D := ⟨_, rfl⟩
  rw [hD0] at hb hd
  go_enter Tryz.func82, Tryz.ntmps82
  obtain ⟨E0, hE00⟩ : ∃ E0, Dm.epW0 y = E0 := ⟨_, rfl⟩
  have hE0b : 0 ≤ E0 ∧ E0 ≤ 29 := by rw [← hE00]; unfold Dm.epW0; omega
  have hep2 : Dm.ep false y = if E0 = 0 ∨ E0 = 1 ∧ 10 < y % 19 then E0 + 1 else E0 := by rw [← hE00]; rfl
  have HE := Lib.hid (show (14 + 11 * (y % 19) - 3 * (y / 100 + 1) / 4 + (5 + 8 * (y / 100 + 1)) / 25) % 30 = E0 from hE00); clear hE00
  go_wp2_with fail
  refine (mod_any _ _ _ (InI.mk (by omega) (by omega)) (by omega) (by omega)).mono ?_; rintro e w' ⟨rfl, rfl⟩
  rw [HE.out]
  rcases (show E0 = 0 ∨ (E0 ≠ 0 ∧ E0 = 1 ∧ 10 < y % 19) ∨ (E0 ≠ 0 ∧ E0 = 1 ∧ ¬ 10 < y % 19) ∨ (E0 ≠ 0 ∧ E0 ≠ 1) by omega) with g | ⟨g0, g1, g2⟩ | ⟨g0, g1, g2⟩ | ⟨g0, g1⟩
  · have hA : (E0 == 0) = true := by simpa using g
    obtain ⟨E, hE1⟩ : ∃ E, E0 + 1 = E := ⟨_, rfl⟩
    have hE0 : Dm.ep false y = E := by rw [hep2, if_pos (by omega)]; exact hE1
    have HE1 := Lib.hid hE1; clear hE1
    clear hep2 g
    go_wp2_with fail
    rw [HE1.out]
    have hF : Dm.full false y = D - E := by unfold Dm.full; rw [show Dm.calE false = 1 from rfl, hD0, hE0]
    rw [hF] at hb
    rw [hE0] at hep
    have HF := Lib.hid (And.intro hF hD0); clear hF hD0 hE0
    by_cases hg : D ≤ 4000000
    · rw [(range_in (by omega) hg).1, (range_in (by omega) hg).2] at hd
      have HD := Lib.hid hd; clear hd
      refine (day_all _ _ _ _ _ (HR.out.alloc _)).mono ?_; rintro en w1 ⟨rfl, hb1⟩
      rw [HD.out.1, HD.out.2, errV_nil]
      have HB1 := Lib.hid (offA hb1); clear hb1
      have hwb := Dm.wd_bd (D - E)
      obtain ⟨W, hW0⟩ : ∃ W, Dm.wd (D - E) = W := ⟨_, rfl⟩
      rw [hW0] at hwb
      have hS : Dm.sunday (Dm.full false y) = D - E + 7 - W % 7 := by rw [HF.out.1]; unfold Dm.sunday; rw [hW0]
      have HW := Lib.hid (And.intro hW0 hS); clear hW0 hS
      by_cases hs : D - E + 7 - W % 7 ≤ 4000000
      · go_wp2_with fail
        refine (weekday_any _ _ (InI.mk (by omega) (by omega))).mono ?_; rintro e w' ⟨rfl, rfl⟩
        rw [HW.out.1]
        go_wp2_with fail
        go_ret2
        exact ⟨_, 0, rfl, .inr (.inr ⟨h1, h2, by rw [show Dm.calE false = 1 from rfl, HF.out.2]; exact hg, by rw [HW.out.2]; exact (range_in (by omega) hs).1.symm, by rw [HW.out.2]; exact (range_in (by omega) hs).2.symm⟩), HB1.out⟩
      · go_wp2_with fail
        refine (weekday_any _ _ (InI.mk (by omega) (by omega))).mono ?_; rintro e w' ⟨rfl, rfl⟩
        rw [HW.out.1]
        go_wp2_with fail
        go_ret2
        exact ⟨0, 4, rfl, .inr (.inr ⟨h1, h2, by rw [show Dm.calE false = 1 from rfl, HF.out.2]; exact hg, by rw [HW.out.2]; exact (range_out (by omega)).1.symm, by rw [HW.out.2]; exact (range_out (by omega)).2.symm⟩), HB1.out⟩
    · rw [(range_out (by omega)).1, (range_out (by omega)).2] at hd
      have HD := Lib.hid hd; clear hd
      refine (day_all _ _ _ _ _ (HR.out.alloc _)).mono ?_; rintro en w1 ⟨rfl, hb1⟩
      rw [HD.out.1, HD.out.2, errV_hit (show (4 : Int) ≠ 0 by decide)]
      have HB1 := Lib.hid (offA hb1); clear hb1
      go_wp2_with fail
      go_ret2
      exact ⟨0, 4, rfl, .inr (.inl ⟨h1, h2, by rw [show Dm.calE false = 1 from rfl, HF.out.2]; omega, rfl, rfl⟩), HB1.out⟩
  · have hA : (E0 == 0) = false := by simpa using g0
    have hB : (E0 == 1) = true := by simpa using g1
    obtain ⟨E, hE1⟩ : ∃ E, E0 + 1 = E := ⟨_, rfl⟩
    have hE0 : Dm.ep false y = E := by rw [hep2, if_pos (by omega)]; exact hE1
    have HE1 := Lib.hid hE1; clear hE1
    clear hep2 g0 g1
    go_wp2_with fail
    rw [HE1.out]
    have hF : Dm.full false y = D - E := by unfold Dm.full; rw [show Dm.calE false = 1 from rfl, hD0, hE0]
    rw [hF] at hb
    rw [hE0] at hep
    have HF := Lib.hid (And.intro hF hD0); clear hF hD0 hE0
    by_cases hg : D ≤ 4000000
    · rw [(range_in (by omega) hg).1, (range_in (by omega) hg).2] at hd
      have HD := Lib.hid hd; clear hd
      refine (day_all _ _ _ _ _ (HR.out.alloc _)).mono ?_; rintro en w1 ⟨rfl, hb1⟩
      rw [HD.out.1, HD.out.2, errV_nil]
      have HB1 := Lib.hid (offA hb1); clear hb1
      have hwb := Dm.wd_bd (D - E)
      obtain ⟨W, hW0⟩ : ∃ W, Dm.wd (D - E) = W := ⟨_, rfl⟩
      rw [hW0] at hwb
      have hS : Dm.sunday (Dm.full false y) = D - E + 7 - W % 7 := by rw [HF.out.1]; unfold Dm.sunday; rw [hW0]
      have HW := Lib.hid (And.intro hW0 hS); clear hW0 hS
      by_cases hs : D - E + 7 - W % 7 ≤ 4000000
      · go_wp2_with fail
        refine (weekday_any _ _ (InI.mk (by omega) (by omega))).mono ?_; rintro e w' ⟨rfl, rfl⟩
        rw [HW.out.1]
        go_wp2_with fail
        go_ret2
        exact ⟨_, 0, rfl, .inr (.inr ⟨h1, h2, by rw [show Dm.calE false = 1 from rfl, HF.out.2]; exact hg, by rw [HW.out.2]; exact (range_in (by omega) hs).1.symm, by rw [HW.out.2]; exact (range_in (by omega) hs).2.symm⟩), HB1.out⟩
      · go_wp2_with fail
        refine (weekday_any _ _ (InI.mk (by omega) (by omega))).mono ?_; rintro e w' ⟨rfl, rfl⟩
        rw [HW.out.1]
        go_wp2_with fail
        go_ret2
        exact ⟨0, 4, rfl, .inr (.inr ⟨h1, h2, by rw [show Dm.calE false = 1 from rfl, HF.out.2]; exact hg, by rw [HW.out.2]; exact (range_out (by omega)).1.symm, by rw [HW.out.2]; exact (range_out (by omega)).2.symm⟩), HB1.out⟩
    · rw [(range_out (by omega)).1, (range_out (by omega)).2] at hd
      have HD := Lib.hid hd; clear hd
      refine (day_all _ _ _ _ _ (HR.out.alloc _)).mono ?_; rintro en w1 ⟨rfl, hb1⟩
      rw [HD.out.1, HD.out.2, errV_hit (show (4 : Int) ≠ 0 by decide)]
      have HB1 := Lib.hid (offA hb1); clear hb1
      go_wp2_with fail
      go_ret2
      exact ⟨0, 4, rfl, .inr (.inl ⟨h1, h2, by rw [show Dm.calE false = 1 from rfl, HF.out.2]; omega, rfl, rfl⟩), HB1.out⟩
  · have hA : (E0 == 0) = false := by simpa using g0
    have hB : (E0 == 1) = true := by simpa using g1
    obtain ⟨E, hE1⟩ : ∃ E, E0 = E := ⟨_, rfl⟩
    have hE0 : Dm.ep false y = E := by rw [hep2, if_neg (by omega)]; exact hE1
    subst hE1
    clear hep2 g0 g1
    go_wp2_with fail
    have hF : Dm.full false y = D - E0 := by unfold Dm.full; rw [show Dm.calE false = 1 from rfl, hD0, hE0]
    rw [hF] at hb
    rw [hE0] at hep
    have HF := Lib.hid (And.intro hF hD0); clear hF hD0 hE0
    by_cases hg : D ≤ 4000000
    · rw [(range_in (by omega) hg).1, (range_in (by omega) hg).2] at hd
      have HD := Lib.hid hd; clear hd
      refine (day_all _ _ _ _ _ (HR.out.alloc _)).mono ?_; rintro en w1 ⟨rfl, hb1⟩
      rw [HD.out.1, HD.out.2, errV_nil]
      have HB1 := Lib.hid (offA hb1); clear hb1
      have hwb := Dm.wd_bd (D - E0)
      obtain ⟨W, hW0⟩ : ∃ W, Dm.wd (D - E0) = W := ⟨_, rfl⟩
      rw [hW0] at hwb
      have hS : Dm.sunday (Dm.full false y) = D - E0 + 7 - W % 7 := by rw [HF.out.1]; unfold Dm.sunday; rw [hW0]
      have HW := Lib.hid (And.intro hW0 hS); clear hW0 hS
      by_cases hs : D - E0 + 7 - W % 7 ≤ 4000000
      · go_wp2_with fail
        refine (weekday_any _ _ (InI.mk (by omega) (by omega))).mono ?_; rintro e w' ⟨rfl, rfl⟩
        rw [HW.out.1]
        go_wp2_with fail
        go_ret2
        exact ⟨_, 0, rfl, .inr (.inr ⟨h1, h2, by rw [show Dm.calE false = 1 from rfl, HF.out.2]; exact hg, by rw [HW.out.2]; exact (range_in (by omega) hs).1.symm, by rw [HW.out.2]; exact (range_in (by omega) hs).2.symm⟩), HB1.out⟩
      · go_wp2_with fail
        refine (weekday_any _ _ (InI.mk (by omega) (by omega))).mono ?_; rintro e w' ⟨rfl, rfl⟩
        rw [HW.out.1]
        go_wp2_with fail
        go_ret2
        exact ⟨0, 4, rfl, .inr (.inr ⟨h1, h2, by rw [show Dm.calE false = 1 from rfl, HF.out.2]; exact hg, by rw [HW.out.2]; exact (range_out (by omega)).1.symm, by rw [HW.out.2]; exact (range_out (by omega)).2.symm⟩), HB1.out⟩
    · rw [(range_out (by omega)).1, (range_out (by omega)).2] at hd
      have HD := Lib.hid hd; clear hd
      refine (day_all _ _ _ _ _ (HR.out.alloc _)).mono ?_; rintro en w1 ⟨rfl, hb1⟩
      rw [HD.out.1, HD.out.2, errV_hit (show (4 : Int) ≠ 0 by decide)]
      have HB1 := Lib.hid (offA hb1); clear hb1
      go_wp2_with fail
      go_ret2
      exact ⟨0, 4, rfl, .inr (.inl ⟨h1, h2, by rw [show Dm.calE false = 1 from rfl, HF.out.2]; omega, rfl, rfl⟩), HB1.out⟩
  · have hA : (E0 == 0) = false := by simpa using g0
    have hB : (E0 == 1) = false := by simpa using g1
    obtain ⟨E, hE1⟩ : ∃ E, E0 = E := ⟨_, rfl⟩
    have hE0 : Dm.ep false y = E := by rw [hep2, if_neg (by omega)]; exact hE1
    subst hE1
    clear hep2 g0 g1
    go_wp2_with fail
    have hF : Dm.full false y = D - E0 := by unfold Dm.full; rw [show Dm.calE false = 1 from rfl, hD0, hE0]
    rw [hF] at hb
    rw [hE0] at hep
    have HF := Lib.hid (And.intro hF hD0); clear hF hD0 hE0
    by_cases hg : D ≤ 4000000
    · rw [(range_in (by omega) hg).1, (range_in (by omega) hg).2] at hd
      have HD := Lib.hid hd; clear hd
      refine (day_all _ _ _ _ _ (HR.out.alloc _)).mono ?_; rintro en w1 ⟨rfl, hb1⟩
      rw [HD.out.1, HD.out.2, errV_nil]
      have HB1 := Lib.hid (offA hb1); clear hb1
      have hwb := Dm.wd_bd (D - E0)
      obtain ⟨W, hW0⟩ : ∃ W, Dm.wd (D - E0) = W := ⟨_, rfl⟩
      rw [hW0] at hwb
      have hS : Dm.sunday (Dm.full false y) = D - E0 + 7 - W % 7 := by rw [HF.out.1]; unfold Dm.sunday; rw [hW0]
      have HW := Lib.hid (And.intro hW0 hS); clear hW0 hS
      by_cases hs : D - E0 + 7 - W % 7 ≤ 4000000
      · go_wp2_with fail
        refine (weekday_any _ _ (InI.mk (by omega) (by omega))).mono ?_; rintro e w' ⟨rfl, rfl⟩
        rw [HW.out.1]
        go_wp2_with fail
        go_ret2
        exact ⟨_, 0, rfl, .inr (.inr ⟨h1, h2, by rw [show Dm.calE false = 1 from rfl, HF.out.2]; exact hg, by rw [HW.out.2]; exact (range_in (by omega) hs).1.symm, by rw [HW.out.2]; exact (range_in (by omega) hs).2.symm⟩), HB1.out⟩
      · go_wp2_with fail
        refine (weekday_any _ _ (InI.mk (by omega) (by omega))).mono ?_; rintro e w' ⟨rfl, rfl⟩
        rw [HW.out.1]
        go_wp2_with fail
        go_ret2
        exact ⟨0, 4, rfl, .inr (.inr ⟨h1, h2, by rw [show Dm.calE false = 1 from rfl, HF.out.2]; exact hg, by rw [HW.out.2]; exact (range_out (by omega)).1.symm, by rw [HW.out.2]; exact (range_out (by omega)).2.symm⟩), HB1.out⟩
    · rw [(range_out (by omega)).1, (range_out (by omega)).2] at hd
      have HD := Lib.hid hd; clear hd
      refine (day_all _ _ _ _ _ (HR.out.alloc _)).mono ?_; rintro en w1 ⟨rfl, hb1⟩
      rw [HD.out.1, HD.out.2, errV_hit (show (4 : Int) ≠ 0 by decide)]
      have HB1 := Lib.hid (offA hb1); clear hb1
      go_wp2_with fail
      go_ret2
      exact ⟨0, 4, rfl, .inr (.inl ⟨h1, h2, by rw [show Dm.calE false = 1 from rfl, HF.out.2]; omega, rfl, rfl⟩), HB1.out⟩
end Go.Proofs.YtbgcccfgcdkmdaaGreatDoor
