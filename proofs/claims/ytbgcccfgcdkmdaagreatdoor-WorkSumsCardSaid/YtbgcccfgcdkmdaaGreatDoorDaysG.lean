/- The document's leap years and months. -/
import Derived.Test.YtbgcccfgcdkmdaaGreatDoorDaysF
import Derived.Deep.RegionWith
namespace Go.Proofs.YtbgcccfgcdkmdaaGreatDoor
open Go.RowKit
set_option maxHeartbeats 400000 in
theorem refGLeap_any (y : Int) (w : World) : Calls Tryz.prog 110 #[.int .i64 y] w fun e w' => e = .returned (.bool (Dm.leap 1 y)) ∧ w = w' := by
  go_enter Tryz.func110, Tryz.ntmps110
  go_wp2_with (go_at_call 51; refine (Mod_any _ _ _ (by omega) (by omega)).mono ?_; rintro e w' ⟨rfl, rfl⟩)
  all_goals go_ret
  all_goals exact ⟨retB (by simp_all [Dm.leap, Dm.gLeap]), rfl⟩
theorem ten {c : Int} (h1 : 1 ≤ c) (h2 : c ≤ 10) : c = 1 ∨ c = 2 ∨ c = 3 ∨ c = 4 ∨ c = 5 ∨ c = 6 ∨ c = 7 ∨ c = 8 ∨ c = 9 ∨ c = 10 := by omega
set_option maxHeartbeats 2000000 in
theorem LeapYear_any (c y : Int) (w : World) (c1 : 1 ≤ c) (c2 : c ≤ 10) (h1 : -25000 ≤ y) (h2 : y ≤ 25000) : Calls Tryz.prog 90 #[.int .i64 c, .int .i64 y] w fun e w' => e = .returned (.bool (Dm.leap c y)) ∧ w = w' := by
  rcases ten c1 c2 with rfl | rfl | rfl | rfl | rfl | rfl | rfl | rfl | rfl | rfl
  all_goals
    clear c1 c2
    go_enter Tryz.func90, Tryz.ntmps90
    go_wp2_with (first
      | (go_at_call 51; refine (Mod_any _ _ _ (by omega) (by omega)).mono ?_; rintro e w' ⟨rfl, rfl⟩)
      | (go_at_call 110; refine (refGLeap_any _ _).mono ?_; rintro e w' ⟨rfl, rfl⟩))
    all_goals go_ret
    all_goals exact ⟨retB (by simp_all [Dm.leap, Dm.hLeap]), rfl⟩
set_option maxHeartbeats 400000 in
theorem CalOK_any (c : Int) (w : World) : Calls Tryz.prog 44 #[.int .i64 c] w fun e w' => e = .returned (.bool (decide (1 ≤ c) && decide (c ≤ 10))) ∧ w = w' := by
  go_enter Tryz.func44, Tryz.ntmps44
  go_wp2
  all_goals go_ret
  all_goals exact ⟨retB (by simp_all <;> omega), rfl⟩
set_option maxHeartbeats 400000 in
theorem year_any (c y : Int) (w : World) : Calls Tryz.prog 118 #[.int .i64 c, .int .i64 y] w fun e w' => e = .returned (.int .i64 (yearE c y)) ∧ w = w' := by
  rcases year_ways c y with h | ⟨h1, h2, h⟩ | ⟨h1, h2, h3, h4⟩
  · have hb : (decide (1 ≤ c) && decide (c ≤ 10)) = false := by simp; omega
    go_enter Tryz.func118, Tryz.ntmps118
    go_wp2_with fail
    refine (CalOK_any _ _).mono ?_; rintro e w' ⟨rfl, rfl⟩
    rw [hb]
    go_wp2_with fail
    go_ret
    exact ⟨ret1 (by rw [yearE_cal h]), rfl⟩
  · have hb : (decide (1 ≤ c) && decide (c ≤ 10)) = true := by simp; omega
    go_enter Tryz.func118, Tryz.ntmps118
    go_wp2_with fail
    refine (CalOK_any _ _).mono ?_; rintro e w' ⟨rfl, rfl⟩
    rw [hb]
    rcases h with h | h
    · go_wp2_with fail
      go_ret
      exact ⟨ret1 (by rw [yearE_range h1 h2 (.inl h)]), rfl⟩
    · have h' : ¬ y < -20000 := by omega
      go_wp2_with fail
      go_ret
      exact ⟨ret1 (by rw [yearE_range h1 h2 (.inr h)]), rfl⟩
  · have hb : (decide (1 ≤ c) && decide (c ≤ 10)) = true := by simp; omega
    go_enter Tryz.func118, Tryz.ntmps118
    go_wp2_with fail
    refine (CalOK_any _ _).mono ?_; rintro e w' ⟨rfl, rfl⟩
    rw [hb]
    go_wp2_with fail
    go_ret
    exact ⟨ret1 (by rw [yearE_ok h1 h2 h3 h4]), rfl⟩
set_option maxHeartbeats 400000 in
theorem moon_any (y : Int) (w : World) (h1 : -100000 ≤ y) (h2 : y ≤ 100000) : Calls Tryz.prog 96 #[.int .i64 y] w fun e w' => e = .returned (.int .i64 (Dm.elapsed y)) ∧ w = w' := by
  go_enter Tryz.func96, Tryz.ntmps96
  go_wp2_with (first | (go_at_call 50; refine (Floor_any _ _ _ (by omega) (by omega) (by omega) (by omega)).mono ?_; rintro e w' ⟨rfl, rfl⟩) | (go_at_call 51; refine (Mod_any _ _ _ (by omega) (by omega)).mono ?_; rintro e w' ⟨rfl, rfl⟩))
  all_goals go_ret
  all_goals exact ⟨ret1 (by unfold Dm.elapsed Dm.day0 Dm.moons; split <;> omega), rfl⟩
set_option maxHeartbeats 1000000 in
theorem hebrew_any (y : Int) (w : World) (h1 : -90000 ≤ y) (h2 : y ≤ 90000) : Calls Tryz.prog 77 #[.int .i64 y] w fun e w' => e = .returned (.int .i64 (Dm.start 7 y)) ∧ w = w' := by
  have b0 := elapsed_bd (y - 1) (by omega) (by omega)
  have b1 := elapsed_bd y (by omega) (by omega)
  have b2 := elapsed_bd (y + 1) (by omega) (by omega)
  go_enter Tryz.func77, Tryz.ntmps77
  go_wp2_with (go_at_call 96; refine (moon_any _ _ (by omega) (by omega)).mono ?_; rintro e w' ⟨rfl, rfl⟩)
  all_goals go_ret
  all_goals exact ⟨ret1 (by simp_all [Dm.start, Dm.hStart]), rfl⟩
/-- The months of a year as a slice of whole numbers, in new memory. -/
def LensPost (c y : Int) (w : World) (e : Ending) (w' : World) : Prop :=
  ∃ (B n cap : Nat), e = .returned (.slice (some ⟨B, 0, none⟩) n cap) ∧ (n : Int) = Dm.months c y ∧ w.heap.size ≤ B ∧ B < w'.heap.size ∧
    (∀ i : Nat, i < n → w'.cell? ⟨B, i, none⟩ = some (.int .i64 (Dm.length c y (i + 1)))) ∧ Below w.heap.size w w'
theorem lens_new {c y : Int} {w : World} {T : TypeId} (xs : List Int) (hn : (xs.length : Int) = Dm.months c y) (hx : ∀ i : Nat, i < xs.length → xs[i]? = some (Dm.length c y (i + 1))) (vs : Array Value) (hv : vs = (xs.map (Value.int .i64)).toArray) (cap : Nat) :
    LensPost c y w (.returned (.slice (some ⟨w.heap.size, 0, none⟩) xs.length cap)) (w.alloc (.cells vs T)) := by
  refine ⟨w.heap.size, xs.length, cap, rfl, hn, Nat.le_refl _, by simp, fun i hi => ?_, (Below.refl _ _).alloc (Nat.le_refl _) _⟩
  rw [World.cell?_alloc_at _ _ _ _ (by simp), hv]
  simp [hx i hi]
theorem upto12 {P : Nat → Prop} (h : P 0 ∧ P 1 ∧ P 2 ∧ P 3 ∧ P 4 ∧ P 5 ∧ P 6 ∧ P 7 ∧ P 8 ∧ P 9 ∧ P 10 ∧ P 11) (i : Nat) (hi : i < 12) : P i := by
  obtain ⟨p0, p1, p2, p3, p4, p5, p6, p7, p8, p9, p10, p11⟩ := h
  match i, hi with
  | 0, _ => exact p0
  | 1, _ => exact p1
  | 2, _ => exact p2
  | 3, _ => exact p3
  | 4, _ => exact p4
  | 5, _ => exact p5
  | 6, _ => exact p6
  | 7, _ => exact p7
  | 8, _ => exact p8
  | 9, _ => exact p9
  | 10, _ => exact p10
  | 11, _ => exact p11
theorem upto13 {P : Nat → Prop} (h : P 0 ∧ P 1 ∧ P 2 ∧ P 3 ∧ P 4 ∧ P 5 ∧ P 6 ∧ P 7 ∧ P 8 ∧ P 9 ∧ P 10 ∧ P 11 ∧ P 12) (i : Nat) (hi : i < 13) : P i := by
  obtain ⟨p0, p1, p2, p3, p4, p5, p6, p7, p8, p9, p10, p11, p12⟩ := h
  by_cases e : i = 12
  · rw [e]; exact p12
  · exact upto12 ⟨p0, p1, p2, p3, p4, p5, p6, p7, p8, p9, p10, p11⟩ i (by omega)
set_option maxHeartbeats 1000000 in
theorem Lengths_1f (y : Int) (w : World) (h1 : -25000 ≤ y) (h2 : y ≤ 25000) (hL : Dm.leap 1 y = false) : Calls Tryz.prog 69 #[.int .i64 1, .int .i64 y] w (LensPost 1 y w) := by
  have HL := Lib.hid hL; clear hL
  go_enter Tryz.func69, Tryz.ntmps69
  go_wp2_with fail
  refine (LeapYear_any _ _ _ (by omega) (by omega) h1 h2).mono ?_; rintro e w' ⟨rfl, rfl⟩
  rw [HL.out]
  go_wp2_with fail
  go_ret
  exact lens_new [31, 28, 31, 30, 31, 30, 31, 31, 30, 31, 30, 31] (by simp [Dm.months]) (upto12 (by have := HL.out; simp [Dm.length, Dm.roman, this])) _ rfl _
set_option maxHeartbeats 1000000 in
theorem Lengths_1t (y : Int) (w : World) (h1 : -25000 ≤ y) (h2 : y ≤ 25000) (hL : Dm.leap 1 y = true) : Calls Tryz.prog 69 #[.int .i64 1, .int .i64 y] w (LensPost 1 y w) := by
  have HL := Lib.hid hL; clear hL
  go_enter Tryz.func69, Tryz.ntmps69
  go_wp2_with fail
  refine (LeapYear_any _ _ _ (by omega) (by omega) h1 h2).mono ?_; rintro e w' ⟨rfl, rfl⟩
  rw [HL.out]
  go_wp2_with fail
  go_ret
  exact lens_new [31, 29, 31, 30, 31, 30, 31, 31, 30, 31, 30, 31] (by simp [Dm.months]) (upto12 (by have := HL.out; simp [Dm.length, Dm.roman, this])) _ rfl _
set_option maxHeartbeats 1000000 in
theorem Lengths_2f (y : Int) (w : World) (h1 : -25000 ≤ y) (h2 : y ≤ 25000) (hL : Dm.leap 2 y = false) : Calls Tryz.prog 69 #[.int .i64 2, .int .i64 y] w (LensPost 2 y w) := by
  have HL := Lib.hid hL; clear hL
  go_enter Tryz.func69, Tryz.ntmps69
  go_wp2_with fail
  refine (LeapYear_any _ _ _ (by omega) (by omega) h1 h2).mono ?_; rintro e w' ⟨rfl, rfl⟩
  rw [HL.out]
  go_wp2_with fail
  go_ret
  exact lens_new [31, 28, 31, 30, 31, 30, 31, 31, 30, 31, 30, 31] (by simp [Dm.months]) (upto12 (by have := HL.out; simp [Dm.length, Dm.roman, this])) _ rfl _
set_option maxHeartbeats 1000000 in
theorem Lengths_2t (y : Int) (w : World) (h1 : -25000 ≤ y) (h2 : y ≤ 25000) (hL : Dm.leap 2 y = true) : Calls Tryz.prog 69 #[.int .i64 2, .int .i64 y] w (LensPost 2 y w) := by
  have HL := Lib.hid hL; clear hL
  go_enter Tryz.func69, Tryz.ntmps69
  go_wp2_with fail
  refine (LeapYear_any _ _ _ (by omega) (by omega) h1 h2).mono ?_; rintro e w' ⟨rfl, rfl⟩
  rw [HL.out]
  go_wp2_with fail
  go_ret
  exact lens_new [31, 29, 31, 30, 31, 30, 31, 31, 30, 31, 30, 31] (by simp [Dm.months]) (upto12 (by have := HL.out; simp [Dm.length, Dm.roman, this])) _ rfl _
set_option maxHeartbeats 1000000 in
theorem Lengths_3f (y : Int) (w : World) (h1 : -25000 ≤ y) (h2 : y ≤ 25000) (hL : Dm.leap 3 y = false) : Calls Tryz.prog 69 #[.int .i64 3, .int .i64 y] w (LensPost 3 y w) := by
  have HL := Lib.hid hL; clear hL
  go_enter Tryz.func69, Tryz.ntmps69
  go_wp2_with fail
  refine (LeapYear_any _ _ _ (by omega) (by omega) h1 h2).mono ?_; rintro e w' ⟨rfl, rfl⟩
  rw [HL.out]
  go_wp2_with fail
  go_ret
  exact lens_new [30, 30, 30, 30, 30, 30, 30, 30, 30, 30, 30, 30, 5] (by simp [Dm.months]) (upto13 (by have := HL.out; simp [Dm.length, this])) _ rfl _
set_option maxHeartbeats 1000000 in
theorem Lengths_3t (y : Int) (w : World) (h1 : -25000 ≤ y) (h2 : y ≤ 25000) (hL : Dm.leap 3 y = true) : Calls Tryz.prog 69 #[.int .i64 3, .int .i64 y] w (LensPost 3 y w) := by
  have HL := Lib.hid hL; clear hL
  go_enter Tryz.func69, Tryz.ntmps69
  go_wp2_with fail
  refine (LeapYear_any _ _ _ (by omega) (by omega) h1 h2).mono ?_; rintro e w' ⟨rfl, rfl⟩
  rw [HL.out]
  go_wp2_with fail
  go_ret
  exact lens_new [30, 30, 30, 30, 30, 30, 30, 30, 30, 30, 30, 30, 6] (by simp [Dm.months]) (upto13 (by have := HL.out; simp [Dm.length, this])) _ rfl _
set_option maxHeartbeats 1000000 in
theorem Lengths_4f (y : Int) (w : World) (h1 : -25000 ≤ y) (h2 : y ≤ 25000) (hL : Dm.leap 4 y = false) : Calls Tryz.prog 69 #[.int .i64 4, .int .i64 y] w (LensPost 4 y w) := by
  have HL := Lib.hid hL; clear hL
  go_enter Tryz.func69, Tryz.ntmps69
  go_wp2_with fail
  refine (LeapYear_any _ _ _ (by omega) (by omega) h1 h2).mono ?_; rintro e w' ⟨rfl, rfl⟩
  rw [HL.out]
  go_wp2_with fail
  go_ret
  exact lens_new [30, 30, 30, 30, 30, 30, 30, 30, 30, 30, 30, 30, 5] (by simp [Dm.months]) (upto13 (by have := HL.out; simp [Dm.length, this])) _ rfl _
set_option maxHeartbeats 1000000 in
theorem Lengths_4t (y : Int) (w : World) (h1 : -25000 ≤ y) (h2 : y ≤ 25000) (hL : Dm.leap 4 y = true) : Calls Tryz.prog 69 #[.int .i64 4, .int .i64 y] w (LensPost 4 y w) := by
  have HL := Lib.hid hL; clear hL
  go_enter Tryz.func69, Tryz.ntmps69
  go_wp2_with fail
  refine (LeapYear_any _ _ _ (by omega) (by omega) h1 h2).mono ?_; rintro e w' ⟨rfl, rfl⟩
  rw [HL.out]
  go_wp2_with fail
  go_ret
  exact lens_new [30, 30, 30, 30, 30, 30, 30, 30, 30, 30, 30, 30, 6] (by simp [Dm.months]) (upto13 (by have := HL.out; simp [Dm.length, this])) _ rfl _
set_option maxHeartbeats 1000000 in
theorem Lengths_5f (y : Int) (w : World) (h1 : -25000 ≤ y) (h2 : y ≤ 25000) (hL : Dm.leap 5 y = false) : Calls Tryz.prog 69 #[.int .i64 5, .int .i64 y] w (LensPost 5 y w) := by
  have HL := Lib.hid hL; clear hL
  go_enter Tryz.func69, Tryz.ntmps69
  go_wp2_with fail
  refine (LeapYear_any _ _ _ (by omega) (by omega) h1 h2).mono ?_; rintro e w' ⟨rfl, rfl⟩
  rw [HL.out]
  go_wp2_with fail
  go_ret
  exact lens_new [30, 29, 30, 29, 30, 29, 30, 29, 30, 29, 30, 29] (by simp [Dm.months]) (upto12 (by have := HL.out; simp [Dm.length, this])) _ rfl _
set_option maxHeartbeats 1000000 in
theorem Lengths_5t (y : Int) (w : World) (h1 : -25000 ≤ y) (h2 : y ≤ 25000) (hL : Dm.leap 5 y = true) : Calls Tryz.prog 69 #[.int .i64 5, .int .i64 y] w (LensPost 5 y w) := by
  have HL := Lib.hid hL; clear hL
  go_enter Tryz.func69, Tryz.ntmps69
  go_wp2_with fail
  refine (LeapYear_any _ _ _ (by omega) (by omega) h1 h2).mono ?_; rintro e w' ⟨rfl, rfl⟩
  rw [HL.out]
  go_wp2_with fail
  go_ret
  exact lens_new [30, 29, 30, 29, 30, 29, 30, 29, 30, 29, 30, 30] (by simp [Dm.months]) (upto12 (by have := HL.out; simp [Dm.length, this])) _ rfl _
set_option maxHeartbeats 1000000 in
theorem Lengths_6f (y : Int) (w : World) (h1 : -25000 ≤ y) (h2 : y ≤ 25000) (hL : Dm.leap 6 y = false) : Calls Tryz.prog 69 #[.int .i64 6, .int .i64 y] w (LensPost 6 y w) := by
  have HL := Lib.hid hL; clear hL
  go_enter Tryz.func69, Tryz.ntmps69
  go_wp2_with fail
  refine (LeapYear_any _ _ _ (by omega) (by omega) h1 h2).mono ?_; rintro e w' ⟨rfl, rfl⟩
  rw [HL.out]
  go_wp2_with fail
  go_ret
  exact lens_new [31, 31, 31, 31, 31, 31, 30, 30, 30, 30, 30, 29] (by simp [Dm.months]) (upto12 (by have := HL.out; simp [Dm.length, this])) _ rfl _
set_option maxHeartbeats 1000000 in
theorem Lengths_6t (y : Int) (w : World) (h1 : -25000 ≤ y) (h2 : y ≤ 25000) (hL : Dm.leap 6 y = true) : Calls Tryz.prog 69 #[.int .i64 6, .int .i64 y] w (LensPost 6 y w) := by
  have HL := Lib.hid hL; clear hL
  go_enter Tryz.func69, Tryz.ntmps69
  go_wp2_with fail
  refine (LeapYear_any _ _ _ (by omega) (by omega) h1 h2).mono ?_; rintro e w' ⟨rfl, rfl⟩
  rw [HL.out]
  go_wp2_with fail
  go_ret
  exact lens_new [31, 31, 31, 31, 31, 31, 30, 30, 30, 30, 30, 30] (by simp [Dm.months]) (upto12 (by have := HL.out; simp [Dm.length, this])) _ rfl _
set_option maxHeartbeats 1000000 in
theorem Lengths_8f (y : Int) (w : World) (h1 : -25000 ≤ y) (h2 : y ≤ 25000) (hL : Dm.leap 8 y = false) : Calls Tryz.prog 69 #[.int .i64 8, .int .i64 y] w (LensPost 8 y w) := by
  have HL := Lib.hid hL; clear hL
  go_enter Tryz.func69, Tryz.ntmps69
  go_wp2_with fail
  refine (LeapYear_any _ _ _ (by omega) (by omega) h1 h2).mono ?_; rintro e w' ⟨rfl, rfl⟩
  rw [HL.out]
  go_wp2_with fail
  go_ret
  exact lens_new [30, 31, 31, 31, 31, 31, 30, 30, 30, 30, 30, 30] (by simp [Dm.months]) (upto12 (by have := HL.out; simp [Dm.length, this])) _ rfl _
set_option maxHeartbeats 1000000 in
theorem Lengths_8t (y : Int) (w : World) (h1 : -25000 ≤ y) (h2 : y ≤ 25000) (hL : Dm.leap 8 y = true) : Calls Tryz.prog 69 #[.int .i64 8, .int .i64 y] w (LensPost 8 y w) := by
  have HL := Lib.hid hL; clear hL
  go_enter Tryz.func69, Tryz.ntmps69
  go_wp2_with fail
  refine (LeapYear_any _ _ _ (by omega) (by omega) h1 h2).mono ?_; rintro e w' ⟨rfl, rfl⟩
  rw [HL.out]
  go_wp2_with fail
  go_ret
  exact lens_new [31, 31, 31, 31, 31, 31, 30, 30, 30, 30, 30, 30] (by simp [Dm.months]) (upto12 (by have := HL.out; simp [Dm.length, this])) _ rfl _
set_option maxHeartbeats 1000000 in
theorem Lengths_9f (y : Int) (w : World) (h1 : -25000 ≤ y) (h2 : y ≤ 25000) (hL : Dm.leap 9 y = false) : Calls Tryz.prog 69 #[.int .i64 9, .int .i64 y] w (LensPost 9 y w) := by
  have HL := Lib.hid hL; clear hL
  go_enter Tryz.func69, Tryz.ntmps69
  go_wp2_with fail
  refine (LeapYear_any _ _ _ (by omega) (by omega) h1 h2).mono ?_; rintro e w' ⟨rfl, rfl⟩
  rw [HL.out]
  go_wp2_with fail
  go_ret
  exact lens_new [30, 30, 30, 30, 30, 30, 30, 30, 30, 30, 30, 30, 5] (by simp [Dm.months]) (upto13 (by have := HL.out; simp [Dm.length, this])) _ rfl _
set_option maxHeartbeats 1000000 in
theorem Lengths_9t (y : Int) (w : World) (h1 : -25000 ≤ y) (h2 : y ≤ 25000) (hL : Dm.leap 9 y = true) : Calls Tryz.prog 69 #[.int .i64 9, .int .i64 y] w (LensPost 9 y w) := by
  have HL := Lib.hid hL; clear hL
  go_enter Tryz.func69, Tryz.ntmps69
  go_wp2_with fail
  refine (LeapYear_any _ _ _ (by omega) (by omega) h1 h2).mono ?_; rintro e w' ⟨rfl, rfl⟩
  rw [HL.out]
  go_wp2_with fail
  go_ret
  exact lens_new [30, 30, 30, 30, 30, 30, 30, 30, 30, 30, 30, 30, 6] (by simp [Dm.months]) (upto13 (by have := HL.out; simp [Dm.length, this])) _ rfl _
set_option maxHeartbeats 1000000 in
theorem Lengths_10f (y : Int) (w : World) (h1 : -25000 ≤ y) (h2 : y ≤ 25000) (hL : Dm.leap 10 y = false) : Calls Tryz.prog 69 #[.int .i64 10, .int .i64 y] w (LensPost 10 y w) := by
  have HL := Lib.hid hL; clear hL
  go_enter Tryz.func69, Tryz.ntmps69
  go_wp2_with fail
  refine (LeapYear_any _ _ _ (by omega) (by omega) h1 h2).mono ?_; rintro e w' ⟨rfl, rfl⟩
  rw [HL.out]
  go_wp2_with fail
  go_ret
  exact lens_new [30, 30, 30, 30, 30, 30, 30, 30, 30, 30, 30, 30, 5] (by simp [Dm.months]) (upto13 (by have := HL.out; simp [Dm.length, this])) _ rfl _
theorem Lengths_plain (c y : Int) (w : World) (c1 : 1 ≤ c) (c2 : c ≤ 10) (c7 : c ≠ 7) (h1 : -25000 ≤ y) (h2 : y ≤ 25000) : Calls Tryz.prog 69 #[.int .i64 c, .int .i64 y] w (LensPost c y w) := by
  rcases ten c1 c2 with rfl | rfl | rfl | rfl | rfl | rfl | rfl | rfl | rfl | rfl
  · cases hL : Dm.leap 1 y
    · exact Lengths_1f y w h1 h2 hL
    · exact Lengths_1t y w h1 h2 hL
  · cases hL : Dm.leap 2 y
    · exact Lengths_2f y w h1 h2 hL
    · exact Lengths_2t y w h1 h2 hL
  · cases hL : Dm.leap 3 y
    · exact Lengths_3f y w h1 h2 hL
    · exact Lengths_3t y w h1 h2 hL
  · cases hL : Dm.leap 4 y
    · exact Lengths_4f y w h1 h2 hL
    · exact Lengths_4t y w h1 h2 hL
  · cases hL : Dm.leap 5 y
    · exact Lengths_5f y w h1 h2 hL
    · exact Lengths_5t y w h1 h2 hL
  · cases hL : Dm.leap 6 y
    · exact Lengths_6f y w h1 h2 hL
    · exact Lengths_6t y w h1 h2 hL
  · exact absurd rfl c7
  · cases hL : Dm.leap 8 y
    · exact Lengths_8f y w h1 h2 hL
    · exact Lengths_8t y w h1 h2 hL
  · cases hL : Dm.leap 9 y
    · exact Lengths_9f y w h1 h2 hL
    · exact Lengths_9t y w h1 h2 hL
  · exact Lengths_10f y w h1 h2 rfl
end Go.Proofs.YtbgcccfgcdkmdaaGreatDoor
