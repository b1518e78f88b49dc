/- Leap, Months, Length: the program's, and from outside. -/
import Derived.Test.YtbgcccfgcdkmdaaGreatDoorDaysE
namespace Go.Proofs.YtbgcccfgcdkmdaaGreatDoor
open Go.RowKit
set_option maxHeartbeats 1000000 in
theorem length_cal (c y : Int) (m : Int) (w : World) (hc : c < 1 ∨ 10 < c) : Calls Tryz.prog 97 #[.int .i64 c, .int .i64 y, .int .i64 m] w fun e w' => e = .returned (.tuple #[.int .i64 0, .iface 28 (.int .i64 2)]) ∧ Below w.heap.size w w' := by
  go_enter Tryz.func97, Tryz.ntmps97
  go_wp2_with fail
  refine (find_cal _ _ _ hc).mono ?_; rintro e w1 ⟨rfl, hb1⟩
  have hz1 := hb1.size
  have HB1 := Lib.hid hb1; clear hb1
  go_wp2_with fail
  go_ret2
  refine ⟨rfl, ?_⟩
  repeat (first | with_reducible exact HB1.out | (with_reducible refine Below.alloc ?_ (by first | omega | (simp <;> omega)) _) | (with_reducible refine Below.setCell ?_ (by first | omega | (simp <;> omega)) _))
set_option maxHeartbeats 1000000 in
theorem length_range (c y : Int) (m : Int) (w : World) (hr : RomanT w) (h1 : 1 ≤ c) (h2 : c ≤ 10) (hy : y < -20000 ∨ 20000 < y) : Calls Tryz.prog 97 #[.int .i64 c, .int .i64 y, .int .i64 m] w fun e w' => e = .returned (.tuple #[.int .i64 0, .iface 28 (.int .i64 4)]) ∧ Below w.heap.size w w' := by
  go_enter Tryz.func97, Tryz.ntmps97
  go_wp2_with fail
  refine (find_range _ _ _ hr h1 h2 hy).mono ?_; rintro e w1 ⟨sf, lf, mf, gf, mc, gc, rfl, hb1⟩
  unfold schV
  have hz1 := hb1.size
  have HB1 := Lib.hid hb1; clear hb1
  go_wp2_with fail
  go_ret2
  refine ⟨rfl, ?_⟩
  repeat (first | with_reducible exact HB1.out | (with_reducible refine Below.alloc ?_ (by first | omega | (simp <;> omega)) _) | (with_reducible refine Below.setCell ?_ (by first | omega | (simp <;> omega)) _))
set_option maxHeartbeats 2000000 in
theorem length_date (c y m : Int) (w : World) (hr : RomanT w) (h1 : 1 ≤ c) (h2 : c ≤ 10) (hy1 : -20000 ≤ y) (hy2 : y ≤ 20000) (hm : m < 1 ∨ Dm.months c y < m) : Calls Tryz.prog 97 #[.int .i64 c, .int .i64 y, .int .i64 m] w fun e w' => e = .returned (.tuple #[.int .i64 0, .iface 28 (.int .i64 3)]) ∧ Below w.heap.size w w' := by
  have HR := Lib.hid hr; clear hr
  have hml := Dm.months_lo c y
  go_enter Tryz.func97, Tryz.ntmps97
  go_wp2_with fail
  refine (find_ok _ _ _ HR.out h1 h2 hy1 hy2).mono ?_; rintro e w1 ⟨sf, lf, mf, gf, mc, gc, mB, gB, rfl, hS, hmB, hgB, hb1⟩
  unfold schV
  have hme := hS.me
  have hlt := hS.mlt
  have HS := Lib.hid hS; clear hS hmB hgB
  have hz1 := hb1.size
  have HB1 := Lib.hid hb1; clear hb1
  by_cases hm1 : m < 1
  · go_wp2_with fail
    go_ret2
    refine ⟨rfl, ?_⟩
    repeat (first | with_reducible exact HB1.out | (with_reducible refine Below.alloc ?_ (by first | omega | (simp <;> omega)) _) | (with_reducible refine Below.setCell ?_ (by first | omega | (simp <;> omega)) _))
  · have hm2 : Dm.months c y < m := by omega
    have hm3 : ¬ m < 1 := hm1
    go_wp2_with fail
    refine (HS.out.months _ _ (by omega) (by omega) (cell_alloc hlt)).mono ?_; rintro e w2 ⟨rfl, rfl⟩
    go_wp2_with fail
    go_ret2
    refine ⟨rfl, ?_⟩
    repeat (first | with_reducible exact HB1.out | (with_reducible refine Below.alloc ?_ (by first | omega | (simp <;> omega)) _) | (with_reducible refine Below.setCell ?_ (by first | omega | (simp <;> omega)) _))
set_option maxHeartbeats 2000000 in
theorem length_ok (c y m : Int) (w : World) (hr : RomanT w) (h1 : 1 ≤ c) (h2 : c ≤ 10) (hy1 : -20000 ≤ y) (hy2 : y ≤ 20000) (hm1 : 1 ≤ m) (hm2 : m ≤ Dm.months c y) : Calls Tryz.prog 97 #[.int .i64 c, .int .i64 y, .int .i64 m] w fun e w' => e = .returned (.tuple #[.int .i64 (Dm.length c y m), .nilIface]) ∧ Below w.heap.size w w' := by
  have HR := Lib.hid hr; clear hr
  have hml := Dm.months_lo c y
  go_enter Tryz.func97, Tryz.ntmps97
  go_wp2_with fail
  refine (find_ok _ _ _ HR.out h1 h2 hy1 hy2).mono ?_; rintro e w1 ⟨sf, lf, mf, gf, mc, gc, mB, gB, rfl, hS, hmB, hgB, hb1⟩
  unfold schV
  have hme := hS.me
  have hge := hS.ge
  have hlt := hS.mlt
  have hlt2 := hS.glt
  have HS := Lib.hid hS; clear hS hmB hgB
  have hz1 := hb1.size
  have HR1 := Lib.hid (RomanT.call HR.out hb1)
  have HB1 := Lib.hid hb1; clear hb1
  go_wp2_with fail
  refine (HS.out.months _ _ (by omega) (by omega) (cell_alloc hlt)).mono ?_; rintro e w2 ⟨rfl, rfl⟩
  go_wp2_with fail
  refine (HS.out.length _ _ _ (by omega) (by omega) hm1 hm2 (cell_alloc hlt2) (RomanT.alloc HR1.out _)).mono ?_; rintro e w2 ⟨rfl, rfl⟩
  go_wp2_with fail
  go_ret2
  refine ⟨rfl, ?_⟩
  repeat (first | with_reducible exact HB1.out | (with_reducible refine Below.alloc ?_ (by first | omega | (simp <;> omega)) _) | (with_reducible refine Below.setCell ?_ (by first | omega | (simp <;> omega)) _))
/-- What is wrong with a month. -/
def lenE (c y m : Int) : Int := if yearE c y ≠ 0 then yearE c y else if m < 1 ∨ Dm.months c y < m then 3 else 0
def leapR (c y : Int) : Bool := if yearE c y = 0 then Dm.leap c y else false
def monthsR (c y : Int) : Int := if yearE c y = 0 then Dm.months c y else 0
def lenR (c y m : Int) : Int := if lenE c y m = 0 then Dm.length c y m else 0
theorem yearE_cal {c y : Int} (h : c < 1 ∨ 10 < c) : yearE c y = 2 := if_pos h
theorem yearE_range {c y : Int} (h1 : 1 ≤ c) (h2 : c ≤ 10) (h : y < -20000 ∨ 20000 < y) : yearE c y = 4 := by unfold yearE; rw [if_neg (by omega), if_pos h]
theorem yearE_ok {c y : Int} (h1 : 1 ≤ c) (h2 : c ≤ 10) (h3 : -20000 ≤ y) (h4 : y ≤ 20000) : yearE c y = 0 := by unfold yearE; rw [if_neg (by omega), if_neg (by omega)]
theorem year_ways (c y : Int) : (c < 1 ∨ 10 < c) ∨ (1 ≤ c ∧ c ≤ 10 ∧ (y < -20000 ∨ 20000 < y)) ∨ (1 ≤ c ∧ c ≤ 10 ∧ -20000 ≤ y ∧ y ≤ 20000) := by omega
theorem lenE_bad {c y m : Int} (h : yearE c y ≠ 0) : lenE c y m = yearE c y := if_pos h
theorem lenE_date {c y m : Int} (h : yearE c y = 0) (hm : m < 1 ∨ Dm.months c y < m) : lenE c y m = 3 := by unfold lenE; rw [if_neg (by simp [h]), if_pos hm]
theorem lenE_ok {c y m : Int} (h : yearE c y = 0) (h1 : 1 ≤ m) (h2 : m ≤ Dm.months c y) : lenE c y m = 0 := by unfold lenE; rw [if_neg (by simp [h]), if_neg (by omega)]
theorem length_all (c y m : Int) (w : World) (hr : RomanT w) : Calls Tryz.prog 97 #[.int .i64 c, .int .i64 y, .int .i64 m] w fun e w' => e = .returned (.tuple #[.int .i64 (lenR c y m), errV (lenE c y m)]) ∧ Below w.heap.size w w' := by
  unfold lenR
  rcases year_ways c y with h | ⟨h1, h2, h⟩ | ⟨h1, h2, h3, h4⟩
  · rw [lenE_bad (by rw [yearE_cal h]; decide), yearE_cal h]; exact length_cal c y m w h
  · rw [lenE_bad (by rw [yearE_range h1 h2 h]; decide), yearE_range h1 h2 h]; exact length_range c y m w hr h1 h2 h
  · by_cases hm : m < 1 ∨ Dm.months c y < m
    · rw [lenE_date (yearE_ok h1 h2 h3 h4) hm]; exact length_date c y m w hr h1 h2 h3 h4 hm
    · rw [lenE_ok (yearE_ok h1 h2 h3 h4) (by omega) (by omega)]; exact length_ok c y m w hr h1 h2 h3 h4 (by omega) (by omega)
end Go.Proofs.YtbgcccfgcdkmdaaGreatDoor
