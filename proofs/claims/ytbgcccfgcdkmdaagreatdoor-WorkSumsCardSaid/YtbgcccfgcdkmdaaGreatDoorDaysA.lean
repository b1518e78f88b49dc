/- The small numbers of days and of the document: floor, mod, Floor, Mod. -/
import Derived.Test.YtbgcccfgcdkmdaaGreatDoorTell
import Derived.Test.YtbgcccfgcdkmdaaGreatDoorInts
import Derived.Test.YtbgcccfgcdkmdaaGreatDoorDaysMath
import Derived.BigQuiet
import Derived.Deep.QuietTactic
namespace Go.Proofs.YtbgcccfgcdkmdaaGreatDoor
open Go.RowKit
set_option maxHeartbeats 400000 in
theorem floor_any (a b : Int) (w : World) (ha : InI a) (hb : 2 ≤ b) : Calls Tryz.prog 92 #[.int .i64 a, .int .i64 b] w fun e w' => e = .returned (.int .i64 (a / b)) ∧ w = w' := by
  have HA := Lib.hid ha; clear ha
  by_cases h : a.tmod b < 0
  · go_enter Tryz.func92, Tryz.ntmps92
    go_wp2
    go_ret
    exact ⟨ret1 (floor_neg HA.out hb h), rfl⟩
  · go_enter Tryz.func92, Tryz.ntmps92
    go_wp2
    go_ret
    exact ⟨ret1 (floor_pos HA.out hb (by omega)), rfl⟩
set_option maxHeartbeats 400000 in
theorem mod_any (a b : Int) (w : World) (ha : InI a) (hb : 2 ≤ b) (hb2 : b ≤ 1000000000) : Calls Tryz.prog 95 #[.int .i64 a, .int .i64 b] w fun e w' => e = .returned (.int .i64 (a % b)) ∧ w = w' := by
  have HA := Lib.hid ha; clear ha
  have HB := Lib.hid (And.intro hb hb2)
  have hm := mod_in (a := a) HB.out.1 HB.out.2
  have HM := Lib.hid hm; clear hm hb hb2
  go_enter Tryz.func95, Tryz.ntmps95
  go_wp2_with (go_at_call 92; refine (floor_any _ _ _ HA.out HB.out.1).mono ?_; rintro e w' ⟨rfl, rfl⟩)
  go_ret
  exact ⟨ret1 HM.out, rfl⟩
set_option maxHeartbeats 400000 in
theorem Mod_any (a b : Int) (w : World) (hb : 2 ≤ b) (hb2 : b ≤ 1000000000) : Calls Tryz.prog 51 #[.int .i64 a, .int .i64 b] w fun e w' => e = .returned (.int .i64 (a % b)) ∧ w = w' := by
  have h2 := tmod_fact a b (by omega)
  by_cases h : a.tmod b < 0
  · have he := tmod_neg a b (by omega) h
    have HE := Lib.hid he; clear he
    go_enter Tryz.func51, Tryz.ntmps51
    go_wp2
    go_ret
    exact ⟨ret1 HE.out, rfl⟩
  · have he := tmod_pos a b (by omega) (by omega)
    have HE := Lib.hid he; clear he
    go_enter Tryz.func51, Tryz.ntmps51
    go_wp2
    go_ret
    exact ⟨ret1 HE.out, rfl⟩
theorem sub_emod_ediv (a b : Int) (hb : 0 < b) : (a - a % b) / b = a / b := by
  have h1 := Int.mul_ediv_add_emod a b
  have : a - a % b = b * (a / b) := by omega
  rw [this, Int.mul_ediv_cancel_left _ (by omega)]
set_option maxHeartbeats 400000 in
theorem Floor_any (a b : Int) (w : World) (h1 : -1000000000000000 ≤ a) (h2 : a ≤ 1000000000000000) (hb : 2 ≤ b) (hb2 : b ≤ 1000000000) : Calls Tryz.prog 50 #[.int .i64 a, .int .i64 b] w fun e w' => e = .returned (.int .i64 (a / b)) ∧ w = w' := by
  have hs := sub_emod_ediv a b (by omega)
  have e2 := Int.emod_nonneg a (show b ≠ 0 by omega)
  have e3 := Int.emod_lt_of_pos a (show 0 < b by omega)
  have ht : (a - a % b).tmod b = 0 := by rw [show a - a % b = b * (a / b) by have := Int.mul_ediv_add_emod a b; omega]; exact Int.mul_tmod_right _ _
  have hf := tdiv_pos (a - a % b) b (by omega) (by omega)
  rw [hs] at hf
  have HF := Lib.hid hf
  clear hs ht hf
  go_enter Tryz.func50, Tryz.ntmps50
  go_wp2_with (go_at_call 51; refine (Mod_any _ _ _ hb hb2).mono ?_; rintro e w' ⟨rfl, rfl⟩)
  go_ret
  exact ⟨ret1 HF.out, rfl⟩
end Go.Proofs.YtbgcccfgcdkmdaaGreatDoor
