/- find, Leap, Months, Length, Weekday: the program's, and from outside. Leap, Months, Length: the program's, and from outside. -/
import Derived.Test.YtkfpnlenmdlmjaaGreatDoorZDaysD
namespace Go.Proofs.YtkfpnlenmdlmjaaGreatDoor
open Go.RowKit
/-- What is wrong with a calendar and a year: 2, 4, or nothing: 0. -/
def yearE (c y : Int) : Int := if c < 1 ∨ 10 < c then 2 else if y < -20000 ∨ 20000 < y then 4 else 0
def FindRange (c : Int) (w : World) (e : Ending) (w' : World) : Prop :=
  ∃ sf lf mf gf mc gc, e = .returned (.tuple #[schV c sf lf mf gf mc gc, .iface 25 (.int .i64 4)]) ∧ Below w.heap.size w w'
def FindOk (c : Int) (w : World) (e : Ending) (w' : World) : Prop :=
  ∃ sf lf mf gf mc gc mB gB, e = .returned (.tuple #[schV c sf lf mf gf mc gc, .nilIface]) ∧ Sch c w' sf lf mf gf mc gc mB gB ∧ NewB w mB ∧ NewB w gB ∧ Below w.heap.size w w'
theorem cell_set {w : World} {p : Addr} {u : Value} {B o : Nat} (h : B ≠ p.block) : (w.setCell p u).cell? ⟨B, o, none⟩ = w.cell? ⟨B, o, none⟩ := World.cell?_of_block (Below.heap_setCell w p u B h)
theorem cell_alloc {w : World} {x : Obj} {B o : Nat} (h : B < w.heap.size) : (w.alloc x).cell? ⟨B, o, none⟩ = w.cell? ⟨B, o, none⟩ := World.cell?_alloc_lt _ _ ⟨B, o, none⟩ h
theorem NewB.ne {w : World} {o : Obj} {B : Nat} (h : NewB (w.alloc o) B) (hr : RomanT w) : B ≠ w.heap.size := by
  have := hr.lt
  rcases h with h | h
  · omega
  · simp only [World.size_alloc] at h; omega
theorem NewB.off {w : World} {o : Obj} {B : Nat} (h : NewB (w.alloc o) B) : NewB w B := by
  rcases h with h | h
  · exact .inl h
  · simp only [World.size_alloc] at h; exact .inr (by omega)
set_option maxHeartbeats 1000000 in
theorem find_cal (c y : Int) (w : World) (hc : c < 1 ∨ 10 < c) : Calls Tryz.prog 118 #[.int .i64 c, .int .i64 y] w fun e w' => e = .returned (.tuple #[.agg #[.int .i64 0, .nilFunc, .nilFunc, .nilFunc, .nilFunc], .iface 25 (.int .i64 2)]) ∧ Below w.heap.size w w' := by
  go_enter Tryz.func118, Tryz.ntmps118
  go_wp2_with fail
  refine (of_none _ _ hc).mono ?_; rintro e w1 ⟨rfl, hb1⟩
  have hz1 := hb1.size
  simp only [World.size_alloc] at hz1
  obtain ⟨q1, p1⟩ := carry hb1 w.heap.size (by simp)
  have hs1 : w.heap.size < w1.heap.size := by omega
  have HB1 := Lib.hid (offA hb1); clear hb1
  go_wp2_with fail
  refine bodyPost_ret (v := .tuple #[.agg #[.int .i64 0, .nilFunc, .nilFunc, .nilFunc, .nilFunc], .iface 25 (.int .i64 2)]) (by simp [results, Tryz.results118, go_sem, q1, hs1]) rfl ⟨rfl, ?_⟩
  repeat (first | with_reducible exact HB1.out | (with_reducible refine Below.alloc ?_ (by first | omega | (simp <;> omega)) _) | (with_reducible refine Below.setCell ?_ (by first | omega | (simp <;> omega)) _))
set_option maxHeartbeats 1000000 in
theorem find_range (c y : Int) (w : World) (hr : RomanT w) (h1 : 1 ≤ c) (h2 : c ≤ 10) (hy : y < -20000 ∨ 20000 < y) : Calls Tryz.prog 118 #[.int .i64 c, .int .i64 y] w (FindRange c w) := by
  have HR := Lib.hid hr; clear hr
  rcases hy with hy | hy
  all_goals
    try have hy' : ¬ y < -20000 := by omega
    go_enter Tryz.func118, Tryz.ntmps118
    go_wp2_with fail
    refine (of_any _ _ (RomanT.alloc HR.out _) h1 h2).mono ?_; rintro e w1 ⟨sf, lf, mf, gf, mc, gc, mB, gB, rfl, hS, hmB, hgB, hb1⟩
    unfold schV
    clear hS hmB hgB
    have hz1 := hb1.size
    simp only [World.size_alloc] at hz1
    obtain ⟨q1, p1⟩ := carry hb1 w.heap.size (by simp)
    have hs1 : w.heap.size < w1.heap.size := by omega
    have HB1 := Lib.hid (offA hb1); clear hb1
    go_wp2_with fail
    refine bodyPost_ret (v := .tuple #[schV c sf lf mf gf mc gc, .iface 25 (.int .i64 4)]) (by simp [results, Tryz.results118, go_sem, q1, hs1, schV]) rfl ⟨sf, lf, mf, gf, mc, gc, rfl, ?_⟩
    repeat (first | with_reducible exact HB1.out | (with_reducible refine Below.alloc ?_ (by first | omega | (simp <;> omega)) _) | (with_reducible refine Below.setCell ?_ (by first | omega | (simp <;> omega)) _))
set_option maxHeartbeats 1000000 in
theorem find_ok (c y : Int) (w : World) (hr : RomanT w) (h1 : 1 ≤ c) (h2 : c ≤ 10) (hy1 : -20000 ≤ y) (hy2 : y ≤ 20000) : Calls Tryz.prog 118 #[.int .i64 c, .int .i64 y] w (FindOk c w) := by
  have HR := Lib.hid hr; clear hr
  go_enter Tryz.func118, Tryz.ntmps118
  go_wp2_with fail
  refine (of_any _ _ (RomanT.alloc HR.out _) h1 h2).mono ?_; rintro e w1 ⟨sf, lf, mf, gf, mc, gc, mB, gB, rfl, hS, hmB, hgB, hb1⟩
  unfold schV
  have HS := Lib.hid (And.intro hS (And.intro hmB hgB)); clear hS hmB hgB
  have hz1 := hb1.size
  simp only [World.size_alloc] at hz1
  obtain ⟨q1, p1⟩ := carry hb1 w.heap.size (by simp)
  have hs1 : w.heap.size < w1.heap.size := by omega
  have HB1 := Lib.hid (offA hb1); clear hb1
  go_wp2_with fail
  refine bodyPost_ret (v := .tuple #[schV c sf lf mf gf mc gc, .nilIface]) (by simp [results, Tryz.results118, go_sem, q1, hs1, schV]) rfl ⟨sf, lf, mf, gf, mc, gc, mB, gB, rfl, ?_, HS.out.2.1.off, HS.out.2.2.off, ?_⟩
  · have hm := HS.out.2.1.ne HR.out
    have hg := HS.out.2.2.ne HR.out
    have l1 := HS.out.1.mlt
    have l2 := HS.out.1.glt
    refine HS.out.1.move (by simp) ?_ ?_
    · refine (cell_alloc (by simp; exact l1)).trans ?_
      iterate 5 refine (cell_set (p := ⟨_, _, _⟩) hm).trans ?_
      rfl
    · refine (cell_alloc (by simp; exact l2)).trans ?_
      iterate 5 refine (cell_set (p := ⟨_, _, _⟩) hg).trans ?_
      rfl
  · repeat (first | with_reducible exact HB1.out | (with_reducible refine Below.alloc ?_ (by first | omega | (simp <;> omega)) _) | (with_reducible refine Below.setCell ?_ (by first | omega | (simp <;> omega)) _))
end Go.Proofs.YtkfpnlenmdlmjaaGreatDoor
namespace Go.Proofs.YtkfpnlenmdlmjaaGreatDoor
open Go.RowKit
set_option maxHeartbeats 1000000 in
theorem leap_ok (c y : Int) (w : World) (hr : RomanT w) (h1 : 1 ≤ c) (h2 : c ≤ 10) (hy1 : -20000 ≤ y) (hy2 : y ≤ 20000) : Calls Tryz.prog 109 #[.int .i64 c, .int .i64 y] w fun e w' => e = .returned (.tuple #[.bool (Dm.leap c y), .nilIface]) ∧ Below w.heap.size w w' := by
  have HR := Lib.hid hr; clear hr
  go_enter Tryz.func109, Tryz.ntmps109
  go_wp2_with fail
  refine (find_ok _ _ _ HR.out h1 h2 hy1 hy2).mono ?_; rintro e w1 ⟨sf, lf, mf, gf, mc, gc, mB, gB, rfl, hS, hmB, hgB, hb1⟩
  unfold schV
  have hle := hS.le
  have HS := Lib.hid hS; clear hS hmB hgB
  have hz1 := hb1.size
  have HB1 := Lib.hid hb1; clear hb1
  go_wp2_with fail
  refine (HS.out.leap _ _ (by omega) (by omega)).mono ?_; rintro e w2 ⟨rfl, rfl⟩
  go_wp2_with fail
  go_ret2
  refine ⟨rfl, ?_⟩
  repeat (first | with_reducible exact HB1.out | (with_reducible refine Below.alloc ?_ (by first | omega | (simp <;> omega)) _) | (with_reducible refine Below.setCell ?_ (by first | omega | (simp <;> omega)) _))
set_option maxHeartbeats 1000000 in
theorem leap_cal (c y : Int) (w : World) (hc : c < 1 ∨ 10 < c) : Calls Tryz.prog 109 #[.int .i64 c, .int .i64 y] w fun e w' => e = .returned (.tuple #[.bool false, .iface 25 (.int .i64 2)]) ∧ Below w.heap.size w w' := by
  go_enter Tryz.func109, Tryz.ntmps109
  go_wp2_with fail
  refine (find_cal _ _ _ hc).mono ?_; rintro e w1 ⟨rfl, hb1⟩
  have hz1 := hb1.size
  have HB1 := Lib.hid hb1; clear hb1
  go_wp2_with fail
  go_ret2
  refine ⟨rfl, ?_⟩
  repeat (first | with_reducible exact HB1.out | (with_reducible refine Below.alloc ?_ (by first | omega | (simp <;> omega)) _) | (with_reducible refine Below.setCell ?_ (by first | omega | (simp <;> omega)) _))
set_option maxHeartbeats 1000000 in
theorem leap_range (c y : Int) (w : World) (hr : RomanT w) (h1 : 1 ≤ c) (h2 : c ≤ 10) (hy : y < -20000 ∨ 20000 < y) : Calls Tryz.prog 109 #[.int .i64 c, .int .i64 y] w fun e w' => e = .returned (.tuple #[.bool false, .iface 25 (.int .i64 4)]) ∧ Below w.heap.size w w' := by
  go_enter Tryz.func109, Tryz.ntmps109
  go_wp2_with fail
  refine (find_range _ _ _ hr h1 h2 hy).mono ?_; rintro e w1 ⟨sf, lf, mf, gf, mc, gc, rfl, hb1⟩
  unfold schV
  have hz1 := hb1.size
  have HB1 := Lib.hid hb1; clear hb1
  go_wp2_with fail
  go_ret2
  refine ⟨rfl, ?_⟩
  repeat (first | with_reducible exact HB1.out | (with_reducible refine Below.alloc ?_ (by first | omega | (simp <;> omega)) _) | (with_reducible refine Below.setCell ?_ (by first | omega | (simp <;> omega)) _))
set_option maxHeartbeats 1000000 in
theorem length_cal (c y : Int) (m : Int) (w : World) (hc : c < 1 ∨ 10 < c) : Calls Tryz.prog 110 #[.int .i64 c, .int .i64 y, .int .i64 m] w fun e w' => e = .returned (.tuple #[.int .i64 0, .iface 25 (.int .i64 2)]) ∧ Below w.heap.size w w' := by
  go_enter Tryz.func110, Tryz.ntmps110
  go_wp2_with fail
  refine (find_cal _ _ _ hc).mono ?_; rintro e w1 ⟨rfl, hb1⟩
  have hz1 := hb1.size
  have HB1 := Lib.hid hb1; clear hb1
  go_wp2_with fail
  go_ret2
  refine ⟨rfl, ?_⟩
  repeat (first | with_reducible exact HB1.out | (with_reducible refine Below.alloc ?_ (by first | omega | (simp <;> omega)) _) | (with_reducible refine Below.setCell ?_ (by first | omega | (simp <;> omega)) _))
set_option maxHeartbeats 1000000 in
theorem length_range (c y : Int) (m : Int) (w : World) (hr : RomanT w) (h1 : 1 ≤ c) (h2 : c ≤ 10) (hy : y < -20000 ∨ 20000 < y) : Calls Tryz.prog 110 #[.int .i64 c, .int .i64 y, .int .i64 m] w fun e w' => e = .returned (.tuple #[.int .i64 0, .iface 25 (.int .i64 4)]) ∧ Below w.heap.size w w' := by
  go_enter Tryz.func110, Tryz.ntmps110
  go_wp2_with fail
  refine (find_range _ _ _ hr h1 h2 hy).mono ?_; rintro e w1 ⟨sf, lf, mf, gf, mc, gc, rfl, hb1⟩
  unfold schV
  have hz1 := hb1.size
  have HB1 := Lib.hid hb1; clear hb1
  go_wp2_with fail
  go_ret2
  refine ⟨rfl, ?_⟩
  repeat (first | with_reducible exact HB1.out | (with_reducible refine Below.alloc ?_ (by first | omega | (simp <;> omega)) _) | (with_reducible refine Below.setCell ?_ (by first | omega | (simp <;> omega)) _))
set_option maxHeartbeats 2000000 in
theorem length_date (c y m : Int) (w : World) (hr : RomanT w) (h1 : 1 ≤ c) (h2 : c ≤ 10) (hy1 : -20000 ≤ y) (hy2 : y ≤ 20000) (hm : m < 1 ∨ Dm.months c y < m) : Calls Tryz.prog 110 #[.int .i64 c, .int .i64 y, .int .i64 m] w fun e w' => e = .returned (.tuple #[.int .i64 0, .iface 25 (.int .i64 3)]) ∧ Below w.heap.size w w' := by
  have HR := Lib.hid hr; clear hr
  have hml := Dm.months_lo c y
  go_enter Tryz.func110, Tryz.ntmps110
  go_wp2_with fail
  refine (find_ok _ _ _ HR.out h1 h2 hy1 hy2).mono ?_; rintro e w1 ⟨sf, lf, mf, gf, mc, gc, mB, gB, rfl, hS, hmB, hgB, hb1⟩
  unfold schV
  have hme := hS.me
  have hlt := hS.mlt
  have HS := Lib.hid hS; clear hS hmB hgB
  have hz1 := hb1.size
  have HB1 := Lib.hid hb1; clear hb1
  by_cases hm1 : m < 1
  · go_wp2_with fail
    go_ret2
    refine ⟨rfl, ?_⟩
    repeat (first | with_reducible exact HB1.out | (with_reducible refine Below.alloc ?_ (by first | omega | (simp <;> omega)) _) | (with_reducible refine Below.setCell ?_ (by first | omega | (simp <;> omega)) _))
  · have hm2 : Dm.months c y < m := by omega
    have hm3 : ¬ m < 1 := hm1
    go_wp2_with fail
    refine (HS.out.months _ _ (by omega) (by omega) (cell_alloc hlt)).mono ?_; rintro e w2 ⟨rfl, rfl⟩
    go_wp2_with fail
    go_ret2
    refine ⟨rfl, ?_⟩
    repeat (first | with_reducible exact HB1.out | (with_reducible refine Below.alloc ?_ (by first | omega | (simp <;> omega)) _) | (with_reducible refine Below.setCell ?_ (by first | omega | (simp <;> omega)) _))
set_option maxHeartbeats 2000000 in
theorem length_ok (c y m : Int) (w : World) (hr : RomanT w) (h1 : 1 ≤ c) (h2 : c ≤ 10) (hy1 : -20000 ≤ y) (hy2 : y ≤ 20000) (hm1 : 1 ≤ m) (hm2 : m ≤ Dm.months c y) : Calls Tryz.prog 110 #[.int .i64 c, .int .i64 y, .int .i64 m] w fun e w' => e = .returned (.tuple #[.int .i64 (Dm.length c y m), .nilIface]) ∧ Below w.heap.size w w' := by
  have HR := Lib.hid hr; clear hr
  have hml := Dm.months_lo c y
  go_enter Tryz.func110, Tryz.ntmps110
  go_wp2_with fail
  refine (find_ok _ _ _ HR.out h1 h2 hy1 hy2).mono ?_; rintro e w1 ⟨sf, lf, mf, gf, mc, gc, mB, gB, rfl, hS, hmB, hgB, hb1⟩
  unfold schV
  have hme := hS.me
  have hge := hS.ge
  have hlt := hS.mlt
  have hlt2 := hS.glt
  have HS := Lib.hid hS; clear hS hmB hgB
  have hz1 := hb1.size
  have HR1 := Lib.hid (RomanT.call HR.out hb1)
  have HB1 := Lib.hid hb1; clear hb1
  go_wp2_with fail
  refine (HS.out.months _ _ (by omega) (by omega) (cell_alloc hlt)).mono ?_; rintro e w2 ⟨rfl, rfl⟩
  go_wp2_with fail
  refine (HS.out.length _ _ _ (by omega) (by omega) hm1 hm2 (cell_alloc hlt2) (RomanT.alloc HR1.out _)).mono ?_; rintro e w2 ⟨rfl, rfl⟩
  go_wp2_with fail
  go_ret2
  refine ⟨rfl, ?_⟩
  repeat (first | with_reducible exact HB1.out | (with_reducible refine Below.alloc ?_ (by first | omega | (simp <;> omega)) _) | (with_reducible refine Below.setCell ?_ (by first | omega | (simp <;> omega)) _))
/-- What is wrong with a month. -/
def lenE (c y m : Int) : Int := if yearE c y ≠ 0 then yearE c y else if m < 1 ∨ Dm.months c y < m then 3 else 0
def leapR (c y : Int) : Bool := if yearE c y = 0 then Dm.leap c y else false
def lenR (c y m : Int) : Int := if lenE c y m = 0 then Dm.length c y m else 0
theorem yearE_cal {c y : Int} (h : c < 1 ∨ 10 < c) : yearE c y = 2 := if_pos h
theorem yearE_range {c y : Int} (h1 : 1 ≤ c) (h2 : c ≤ 10) (h : y < -20000 ∨ 20000 < y) : yearE c y = 4 := by unfold yearE; rw [if_neg (by omega), if_pos h]
theorem yearE_ok {c y : Int} (h1 : 1 ≤ c) (h2 : c ≤ 10) (h3 : -20000 ≤ y) (h4 : y ≤ 20000) : yearE c y = 0 := by unfold yearE; rw [if_neg (by omega), if_neg (by omega)]
theorem year_ways (c y : Int) : (c < 1 ∨ 10 < c) ∨ (1 ≤ c ∧ c ≤ 10 ∧ (y < -20000 ∨ 20000 < y)) ∨ (1 ≤ c ∧ c ≤ 10 ∧ -20000 ≤ y ∧ y ≤ 20000) := by omega
theorem leap_all (c y : Int) (w : World) (hr : RomanT w) : Calls Tryz.prog 109 #[.int .i64 c, .int .i64 y] w fun e w' => e = .returned (.tuple #[.bool (leapR c y), errV (yearE c y)]) ∧ Below w.heap.size w w' := by
  unfold leapR
  rcases year_ways c y with h | ⟨h1, h2, h⟩ | ⟨h1, h2, h3, h4⟩
  · rw [yearE_cal h]; exact leap_cal c y w h
  · rw [yearE_range h1 h2 h]; exact leap_range c y w hr h1 h2 h
  · rw [yearE_ok h1 h2 h3 h4]; exact leap_ok c y w hr h1 h2 h3 h4
theorem lenE_bad {c y m : Int} (h : yearE c y ≠ 0) : lenE c y m = yearE c y := if_pos h
theorem lenE_date {c y m : Int} (h : yearE c y = 0) (hm : m < 1 ∨ Dm.months c y < m) : lenE c y m = 3 := by unfold lenE; rw [if_neg (by simp [h]), if_pos hm]
theorem lenE_ok {c y m : Int} (h : yearE c y = 0) (h1 : 1 ≤ m) (h2 : m ≤ Dm.months c y) : lenE c y m = 0 := by unfold lenE; rw [if_neg (by simp [h]), if_neg (by omega)]
theorem length_all (c y m : Int) (w : World) (hr : RomanT w) : Calls Tryz.prog 110 #[.int .i64 c, .int .i64 y, .int .i64 m] w fun e w' => e = .returned (.tuple #[.int .i64 (lenR c y m), errV (lenE c y m)]) ∧ Below w.heap.size w w' := by
  unfold lenR
  rcases year_ways c y with h | ⟨h1, h2, h⟩ | ⟨h1, h2, h3, h4⟩
  · rw [lenE_bad (by rw [yearE_cal h]; decide), yearE_cal h]; exact length_cal c y m w h
  · rw [lenE_bad (by rw [yearE_range h1 h2 h]; decide), yearE_range h1 h2 h]; exact length_range c y m w hr h1 h2 h
  · by_cases hm : m < 1 ∨ Dm.months c y < m
    · rw [lenE_date (yearE_ok h1 h2 h3 h4) hm]; exact length_date c y m w hr h1 h2 h3 h4 hm
    · rw [lenE_ok (yearE_ok h1 h2 h3 h4) (by omega) (by omega)]; exact length_ok c y m w hr h1 h2 h3 h4 (by omega) (by omega)
end Go.Proofs.YtkfpnlenmdlmjaaGreatDoor
