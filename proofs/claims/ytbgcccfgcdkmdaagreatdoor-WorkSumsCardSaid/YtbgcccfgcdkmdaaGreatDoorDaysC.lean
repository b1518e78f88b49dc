/- The lengths of months, as the program's functions and closures reckon them. -/
import Derived.Test.YtbgcccfgcdkmdaaGreatDoorDaysB
import Derived.Laws.EntriesVeiled
namespace Go.Proofs.YtbgcccfgcdkmdaaGreatDoor
open Go.RowKit
set_option maxHeartbeats 400000 in
theorem always_any (n y : Int) (B : Nat) (w : World) (hc : w.cell? ⟨B, 0, none⟩ = some (.int .i64 n)) : Calls Tryz.prog 146 #[.int .i64 y, .pointer (some ⟨B, 0, none⟩)] w fun e w' => e = .returned (.int .i64 n) ∧ w = w' := by
  go_enter Tryz.func146, Tryz.ntmps146
  go_wp2
  go_ret
  exact ⟨rfl, rfl⟩
/-- What the table of the months' lengths must hold. -/
def RomanT (w : World) : Prop := ∀ i, i < 12 → w.cell? ⟨1, i, none⟩ = some (.int .i64 ([31, 28, 31, 30, 31, 30, 31, 31, 30, 31, 30, 31].getD i 0))
theorem RomanT.lt {w : World} (h : RomanT w) : 1 < w.heap.size := by
  rcases Nat.lt_or_ge 1 w.heap.size with h1 | h1
  · exact h1
  · have := h 0 (by omega)
    simp [World.cell?, Array.getElem?_eq_none h1] at this
theorem RomanT.call {w w' : World} (h : RomanT w) (hb : Below w.heap.size w w') : RomanT w' := fun i hi => (hb.cell (p := ⟨1, i, none⟩) h.lt).trans (h i hi)
theorem RomanT.alloc {w : World} (h : RomanT w) (o : Obj) : RomanT (w.alloc o) := h.call (Below.alloc (Below.refl _ _) (Nat.le_refl _) _)
theorem RomanT.drew {w : World} (h : RomanT w) : RomanT w.drew := h
theorem RomanT.setCell {w : World} (h : RomanT w) {p : Addr} (hp : 1 < p.block) (u : Value) : RomanT (w.setCell p u) := fun i hi =>
  (World.cell?_of_block (Below.heap_setCell w p u 1 (Nat.ne_of_lt hp))).trans (h i hi)
theorem RomanT.at {w : World} (h : RomanT w) (m : Int) (m1 : 1 ≤ m) (m2 : m ≤ 12) : w.cell? ⟨1, m.toNat - 1, none⟩ = some (.int .i64 (if m = 2 then 28 else Dm.roman m)) := by
  rw [h (m.toNat - 1) (by omega)]
  have hc : m = 1 ∨ m = 2 ∨ m = 3 ∨ m = 4 ∨ m = 5 ∨ m = 6 ∨ m = 7 ∨ m = 8 ∨ m = 9 ∨ m = 10 ∨ m = 11 ∨ m = 12 := by omega
  rcases hc with rfl | rfl | rfl | rfl | rfl | rfl | rfl | rfl | rfl | rfl | rfl | rfl <;> rfl
set_option maxHeartbeats 400000 in
theorem roman1_any (y m : Int) (B : Nat) (w : World) (hc : w.cell? ⟨B, 0, none⟩ = some (.func (Fn.func 120) #[] #[])) (hr : RomanT w) (h1 : -30000 ≤ y) (h2 : y ≤ 30000) (m1 : 1 ≤ m) (m2 : m ≤ 12) :
    Calls Tryz.prog 147 #[.int .i64 y, .int .i64 m, .pointer (some ⟨B, 0, none⟩)] w fun e w' => e = .returned (.int .i64 (Dm.length 1 y m)) ∧ w = w' := by
  by_cases hm : m = 2
  · subst hm
    have hcell : w.cell? ⟨1, 1, none⟩ = some (.int .i64 28) := hr 1 (by omega)
    clear hr
    go_enter Tryz.func147, Tryz.ntmps147
    go_wp2_with (go_at_call 120; refine (gregorianLeap_any _ _ (by omega) (by omega)).mono ?_; rintro e w' ⟨rfl, rfl⟩)
    all_goals go_ret
    all_goals exact ⟨ret1 (by simp_all [Dm.length, Dm.roman]), rfl⟩
  · have hcell := hr.at m m1 m2
    rw [if_neg hm] at hcell
    have hb : (m == 2) = false := by simpa using hm
    clear hr
    have HM := Lib.hid hm; clear hm
    go_enter Tryz.func147, Tryz.ntmps147
    go_wp2_with fail
    go_ret
    exact ⟨ret1 (by have := HM.out; simp [Dm.length, this]), rfl⟩
set_option maxHeartbeats 400000 in
theorem roman2_any (y m : Int) (B : Nat) (w : World) (hc : w.cell? ⟨B, 0, none⟩ = some (.func (Fn.func 124) #[] #[])) (hr : RomanT w) (h1 : -30000 ≤ y) (h2 : y ≤ 30000) (m1 : 1 ≤ m) (m2 : m ≤ 12) :
    Calls Tryz.prog 147 #[.int .i64 y, .int .i64 m, .pointer (some ⟨B, 0, none⟩)] w fun e w' => e = .returned (.int .i64 (Dm.length 2 y m)) ∧ w = w' := by
  by_cases hm : m = 2
  · subst hm
    have hcell : w.cell? ⟨1, 1, none⟩ = some (.int .i64 28) := hr 1 (by omega)
    clear hr
    go_enter Tryz.func147, Tryz.ntmps147
    go_wp2_with (go_at_call 124; refine (julianLeap_any _ _ (by omega) (by omega)).mono ?_; rintro e w' ⟨rfl, rfl⟩)
    all_goals go_ret
    all_goals exact ⟨ret1 (by simp_all [Dm.length, Dm.roman]), rfl⟩
  · have hcell := hr.at m m1 m2
    rw [if_neg hm] at hcell
    have hb : (m == 2) = false := by simpa using hm
    clear hr
    have HM := Lib.hid hm; clear hm
    go_enter Tryz.func147, Tryz.ntmps147
    go_wp2_with fail
    go_ret
    exact ⟨ret1 (by have := HM.out; simp [Dm.length, this]), rfl⟩
set_option maxHeartbeats 400000 in
theorem thirty3_any (y m : Int) (B : Nat) (w : World) (hc : w.cell? ⟨B, 0, none⟩ = some (.func (Fn.func 126) #[] #[])) (_h1 : -30000 ≤ y) (_h2 : y ≤ 30000) (_m1 : 1 ≤ m) (_m2 : m ≤ 13) :
    Calls Tryz.prog 148 #[.int .i64 y, .int .i64 m, .pointer (some ⟨B, 0, none⟩)] w fun e w' => e = .returned (.int .i64 (Dm.length 3 y m)) ∧ w = w' := by
  go_enter Tryz.func148, Tryz.ntmps148
  go_wp2_with (go_at_call 126; refine (copticLeap_any _ _ (by omega) (by omega)).mono ?_; rintro e w' ⟨rfl, rfl⟩)
  all_goals go_ret
  all_goals exact ⟨ret1 (by simp_all [Dm.length]), rfl⟩
set_option maxHeartbeats 400000 in
theorem thirty9_any (y m : Int) (B : Nat) (w : World) (hc : w.cell? ⟨B, 0, none⟩ = some (.func (Fn.func 142) #[] #[])) (_h1 : -30000 ≤ y) (_h2 : y ≤ 30000) (_m1 : 1 ≤ m) (_m2 : m ≤ 13) :
    Calls Tryz.prog 148 #[.int .i64 y, .int .i64 m, .pointer (some ⟨B, 0, none⟩)] w fun e w' => e = .returned (.int .i64 (Dm.length 9 y m)) ∧ w = w' := by
  go_enter Tryz.func148, Tryz.ntmps148
  go_wp2_with (go_at_call 142; refine (frenchLeap_any _ _ (by omega) (by omega)).mono ?_; rintro e w' ⟨rfl, rfl⟩)
  all_goals go_ret
  all_goals exact ⟨ret1 (by simp_all [Dm.length]), rfl⟩
set_option maxHeartbeats 400000 in
theorem thirty10_any (y m : Int) (B : Nat) (w : World) (hc : w.cell? ⟨B, 0, none⟩ = some (.func (Fn.func 144) #[] #[])) (_h1 : -30000 ≤ y) (_h2 : y ≤ 30000) (_m1 : 1 ≤ m) (_m2 : m ≤ 13) :
    Calls Tryz.prog 148 #[.int .i64 y, .int .i64 m, .pointer (some ⟨B, 0, none⟩)] w fun e w' => e = .returned (.int .i64 (Dm.length 10 y m)) ∧ w = w' := by
  go_enter Tryz.func148, Tryz.ntmps148
  go_wp2_with (go_at_call 144; refine (never_any _ _).mono ?_; rintro e w' ⟨rfl, rfl⟩)
  all_goals go_ret
  all_goals exact ⟨ret1 (by simp_all [Dm.length]), rfl⟩
theorem leap4 (y : Int) : Dm.leap 4 y = Dm.leap 3 y := rfl
theorem length4 (y m : Int) : Dm.length 4 y m = Dm.length 3 y m := rfl
theorem start4 (y : Int) : Dm.start 4 y = Dm.start 3 y := rfl
set_option maxHeartbeats 400000 in
theorem islamicLength_any (y m : Int) (w : World) (h1 : -30000 ≤ y) (h2 : y ≤ 30000) (m1 : 1 ≤ m) (m2 : m ≤ 12) : Calls Tryz.prog 130 #[.int .i64 y, .int .i64 m] w fun e w' => e = .returned (.int .i64 (Dm.length 5 y m)) ∧ w = w' := by
  go_enter Tryz.func130, Tryz.ntmps130
  go_wp2_with (go_at_call 129; refine (islamicLeap_any _ _ (by omega) (by omega)).mono ?_; rintro e w' ⟨rfl, rfl⟩)
  all_goals go_ret
  all_goals exact ⟨ret1 (by simp_all [Dm.length]), rfl⟩
set_option maxHeartbeats 400000 in
theorem persianLength_any (y m : Int) (w : World) (h1 : -30000 ≤ y) (h2 : y ≤ 30000) (_m1 : 1 ≤ m) (_m2 : m ≤ 12) : Calls Tryz.prog 133 #[.int .i64 y, .int .i64 m] w fun e w' => e = .returned (.int .i64 (Dm.length 6 y m)) ∧ w = w' := by
  go_enter Tryz.func133, Tryz.ntmps133
  go_wp2_with (go_at_call 132; refine (persianLeap_any _ _ (by omega) (by omega)).mono ?_; rintro e w' ⟨rfl, rfl⟩)
  all_goals go_ret
  all_goals exact ⟨ret1 (by simp_all [Dm.length] <;> (split <;> (try split) <;> omega)), rfl⟩
set_option maxHeartbeats 400000 in
theorem sakaLength_any (y m : Int) (w : World) (h1 : -30000 ≤ y) (h2 : y ≤ 30000) (_m1 : 1 ≤ m) (_m2 : m ≤ 12) : Calls Tryz.prog 140 #[.int .i64 y, .int .i64 m] w fun e w' => e = .returned (.int .i64 (Dm.length 8 y m)) ∧ w = w' := by
  go_enter Tryz.func140, Tryz.ntmps140
  go_wp2_with (go_at_call 139; refine (sakaLeap_any _ _ (by omega) (by omega)).mono ?_; rintro e w' ⟨rfl, rfl⟩)
  all_goals go_ret
  all_goals exact ⟨ret1 (by simp_all [Dm.length]), rfl⟩
set_option maxHeartbeats 400000 in
theorem hebrewMonths_any (y : Int) (w : World) (h1 : -30000 ≤ y) (h2 : y ≤ 30000) : Calls Tryz.prog 136 #[.int .i64 y] w fun e w' => e = .returned (.int .i64 (Dm.months 7 y)) ∧ w = w' := by
  go_enter Tryz.func136, Tryz.ntmps136
  go_wp2_with (go_at_call 135; refine (hebrewLeap_any _ _ (by omega) (by omega)).mono ?_; rintro e w' ⟨rfl, rfl⟩)
  all_goals go_ret
  all_goals exact ⟨ret1 (by simp_all [Dm.months, Dm.leap]), rfl⟩
theorem heb_bd (y : Int) (h1 : -20090 ≤ y) (h2 : y ≤ 20890) : 353 ≤ Dm.start 7 (y + 1) - Dm.start 7 y ∧ Dm.start 7 (y + 1) - Dm.start 7 y ≤ 385 := Dm.days_bd 7 y (by omega) (by omega) (by omega) (by omega)
theorem hStart_bd (y : Int) (h1 : -90000 ≤ y) (h2 : y ≤ 90000) : -50000000 ≤ Dm.start 7 y ∧ Dm.start 7 y ≤ 50000000 := by
  have b1 := elapsed_bd y (by omega) (by omega)
  simp only [Dm.start, Dm.hStart]
  simp
  split <;> (try split) <;> omega
def hebF (L : Bool) (D m : Int) : Int :=
  if L = true ∧ m = 6 then 30
  else
    let k := if L = true ∧ 6 < m then m - 1 else m
    if (k = 2 ∧ D % 10 = 5) ∨ (k = 3 ∧ D % 10 ≠ 3) then 30
    else if k = 2 ∨ k = 3 then 29
    else if k % 2 = 1 then 30 else 29
theorem hebL (y m : Int) : Dm.length 7 y m = hebF (Dm.leap 7 y) (Dm.start 7 (y + 1) - Dm.start 7 y) m := rfl
set_option maxHeartbeats 2000000 in
theorem hebrewLength_any (y m : Int) (w : World) (h1 : -20090 ≤ y) (h2 : y ≤ 20890) (m1 : 1 ≤ m) (m2 : m ≤ 13) : Calls Tryz.prog 137 #[.int .i64 y, .int .i64 m] w fun e w' => e = .returned (.int .i64 (Dm.length 7 y m)) ∧ w = w' := by
  have b0 := heb_bd y h1 h2
  have b1 := hStart_bd y (by omega) (by omega)
  have b2 := hStart_bd (y + 1) (by omega) (by omega)
  go_enter Tryz.func137, Tryz.ntmps137
  go_wp2_with (first | (go_at_call 135; refine (hebrewLeap_any _ _ (by omega) (by omega)).mono ?_; rintro e w' ⟨rfl, rfl⟩) | (go_at_call 134; refine (hebrewStart_any _ _ (by omega) (by omega)).mono ?_; rintro e w' ⟨rfl, rfl⟩))
  all_goals go_ret
  all_goals exact ⟨ret1 (by rw [hebL]; clear b0 b1 b2 h1 h2; generalize Dm.start 7 (y + 1) - Dm.start 7 y = D at *; generalize Dm.leap 7 y = L at *; unfold hebF; first | (simp_all; done) | (simp_all; omega) | (simp_all <;> (repeat' split) <;> omega)), rfl⟩
end Go.Proofs.YtbgcccfgcdkmdaaGreatDoor
