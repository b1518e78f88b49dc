/- Weekdays and weeks: the program's, from outside. -/
import Derived.Test.YtbgcccfgcdkmdaaGreatDoorDaysO
import Derived.Test.YtbgcccfgcdkmdaaGreatDoorDaysMathD
namespace Go.Proofs.YtbgcccfgcdkmdaaGreatDoor
open Go.RowKit
theorem inI_wf {n : Int} (h : (Lit.int .i64 n).wf = true) : InI n := by
  simp [Lit.wf] at h
  obtain ⟨h1, h2⟩ := h
  have e : IntKind.i64.min = -9223372036854775808 := by decide
  exact ⟨by omega, h2⟩
set_option maxHeartbeats 400000 in
theorem weekday_any (n : Int) (w : World) (hn : InI n) : Calls Tryz.prog 75 #[.int .i64 n] w fun e w' => e = .returned (.int .i64 (Dm.wd n)) ∧ w = w' := by
  have HI := Lib.hid hn; clear hn
  go_enter Tryz.func75, Tryz.ntmps75
  go_wp2_with fail
  refine (mod_any _ _ _ HI.out (by omega) (by omega)).mono ?_; rintro e w' ⟨rfl, rfl⟩
  go_wp2_with fail
  refine (mod_any _ _ _ (InI.mk (by omega) (by omega)) (by omega) (by omega)).mono ?_; rintro e w' ⟨rfl, rfl⟩
  go_wp2_with fail
  go_ret
  exact ⟨rfl, rfl⟩
/-- The year, the week and the weekday of a day. -/
def WkR (n y k d : Int) : Prop := (ofE 1 n ≠ 0 ∧ y = 0 ∧ k = 0 ∧ d = 0) ∨ (ofE 1 n = 0 ∧ -18000 ≤ y ∧ y ≤ 18000 ∧ Dm.w1 y ≤ n ∧ n < Dm.w1 (y + 1) ∧ k = (n - Dm.w1 y) / 7 + 1 ∧ d = Dm.wd n)
theorem WkR.one {n y k d y' k' d' : Int} (h : WkR n y k d) (h' : WkR n y' k' d') : y = y' ∧ k = k' ∧ d = d' := by
  rcases h with ⟨e, rfl, rfl, rfl⟩ | ⟨e, _, _, h1, h2, rfl, rfl⟩ <;> rcases h' with ⟨e', rfl, rfl, rfl⟩ | ⟨e', _, _, h1', h2', rfl, rfl⟩
  · exact ⟨rfl, rfl, rfl⟩
  · exact absurd e' e
  · exact absurd e e'
  · obtain rfl := Dm.w1_one h1 h2 h1' h2'
    exact ⟨rfl, rfl, rfl⟩
def WkPost (n : Int) (err : Value) (w : World) (e : Ending) (w' : World) : Prop :=
  ∃ y k d, e = .returned (.tuple #[.int .i64 y, .int .i64 k, .int .i64 d, err]) ∧ WkR n y k d ∧ Below w.heap.size w w'
/-- The year of a day by months lies within the years. -/
theorem of_year {n y m d : Int} (h1 : -4000000 ≤ n) (h2 : n ≤ 4000000) (hv : Dm.Valid 1 y m d) (hd : Dm.dayOf 1 y m d = n) : -17000 ≤ y ∧ y ≤ 17000 ∧ Dm.w1 (y - 1) ≤ n ∧ n < Dm.w1 (y + 1 + 1) := by
  have hi := Dm.in_year 1 y m d (by omega) (by omega) hv
  have hf : Dm.first 1 = -719162 := rfl
  rw [hd, hf] at hi
  have l1 := Dm.lin_start 1 y (by omega) (by omega)
  have l2 := Dm.lin_start 1 (y + 1) (by omega) (by omega)
  unfold Dm.Lin at l1 l2
  have hw := Dm.w1_year y n (by omega) (by omega)
  refine ⟨by omega, by omega, hw.1, hw.2⟩
def weeksR (y : Int) : Int := if yearE 1 y = 0 then (Dm.w1 (y + 1) - Dm.w1 y) / 7 else 0
theorem yearE1_in {y : Int} (h1 : -20000 ≤ y) (h2 : y ≤ 20000) : yearE 1 y = 0 := yearE_ok (by omega) (by omega) h1 h2
theorem yearE1_out {y : Int} (h : y < -20000 ∨ 20000 < y) : yearE 1 y = 4 := yearE_range (by omega) (by omega) h
theorem weeksR_in {y : Int} (h1 : -20000 ≤ y) (h2 : y ≤ 20000) : weeksR y = (Dm.w1 (y + 1) - Dm.w1 y) / 7 := if_pos (yearE1_in h1 h2)
theorem weeksR_out {y : Int} (h : y < -20000 ∨ 20000 < y) : weeksR y = 0 := if_neg (by rw [yearE1_out h]; decide)
/-- What is wrong with a week's weekday, but for the range. -/
def owD (y k d : Int) : Prop := k < 1 ∨ weeksR y < k ∨ d < 1 ∨ 7 < d
def owN (y k d : Int) : Int := Dm.w1 y + 7 * (k - 1) + d - 1
def OwR (y k d r e : Int) : Prop := (yearE 1 y ≠ 0 ∧ r = 0 ∧ e = yearE 1 y) ∨ (yearE 1 y = 0 ∧ owD y k d ∧ r = 0 ∧ e = 3) ∨ (yearE 1 y = 0 ∧ ¬ owD y k d ∧ r = rangeR (owN y k d) ∧ e = rangeE (owN y k d))
theorem OwR.one {y k d r e r' e' : Int} (h : OwR y k d r e) (h' : OwR y k d r' e') : r = r' ∧ e = e' := by
  unfold OwR at h h'
  rcases h with ⟨a, rfl, rfl⟩ | ⟨a, b, rfl, rfl⟩ | ⟨a, b, rfl, rfl⟩ <;> rcases h' with ⟨a', rfl, rfl⟩ | ⟨a', b', rfl, rfl⟩ | ⟨a', b', rfl, rfl⟩ <;> first | exact ⟨rfl, rfl⟩ | exact absurd a' a | exact absurd a a' | exact absurd b b' | exact absurd b' b
end Go.Proofs.YtbgcccfgcdkmdaaGreatDoor
