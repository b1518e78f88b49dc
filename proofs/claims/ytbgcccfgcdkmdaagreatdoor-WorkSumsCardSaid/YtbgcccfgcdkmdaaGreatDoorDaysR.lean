/- Weekdays and weeks: from outside, and the document's; the laws DaysWeeks and DaysWeek. -/
import Derived.Test.YtbgcccfgcdkmdaaGreatDoorDaysQ
import Derived.Test.YtbgcccfgcdkmdaaGreatDoorDaysP
namespace Go.Proofs.YtbgcccfgcdkmdaaGreatDoor
open Go.RowKit
set_option maxHeartbeats 400000 in
theorem refWeekday_any (n : Int) (w : World) : Calls Tryz.prog 54 #[.int .i64 n] w fun e w' => e = .returned (.int .i64 (Dm.wd n)) ∧ w = w' := by
  go_enter Tryz.func54, Tryz.ntmps54
  go_wp2_with fail
  refine (Mod_any _ _ _ (by omega) (by omega)).mono ?_; rintro e w' ⟨rfl, rfl⟩
  go_wp2_with fail
  refine (Mod_any _ _ _ (by omega) (by omega)).mono ?_; rintro e w' ⟨rfl, rfl⟩
  go_wp2_with fail
  go_ret
  exact ⟨rfl, rfl⟩
set_option maxHeartbeats 1000000 in
theorem greg_any (n : Int) (w : World) : Calls Tryz.prog 53 #[.int .i64 n] w fun e w' => ∃ a y m d, e = .returned (dateV a y m d) ∧ OfR 1 n a y m d ∧ Below w.heap.size w w' := by
  go_enter Tryz.func53, Tryz.ntmps53
  go_wp2_with fail
  refine (refOf_all _ _ _).mono ?_; rintro en w1 ⟨a, y, m, d, rfl, hR, hb1⟩
  unfold dateV
  have hz1 := hb1.size
  simp only [World.size_alloc] at hz1
  obtain ⟨q1, p1⟩ := carry hb1 w.heap.size (by simp)
  have hs1 : w.heap.size < w1.heap.size := by omega
  have HR := Lib.hid (And.intro hR (offA hb1)); clear hR hb1
  go_wp2_with fail
  refine bodyPost_ret (v := dateV a y m d) (by simp [results, Tryz.results53, go_sem, dateV, q1, hs1]) rfl ⟨a, y, m, d, rfl, HR.out.1, ?_⟩
  repeat (first | with_reducible exact HR.out.2 | (with_reducible refine Below.alloc ?_ (by first | omega | (simp <;> omega)) _) | (with_reducible refine Below.setCell ?_ (by first | omega | (simp <;> omega)) _))
theorem field_year (a y m d : Int) (w : World) : (Instr.field 89 (.agg #[.int .i64 a, .int .i64 y, .int .i64 m, .int .i64 d]) 1).run Tryz.prog w = .ok (.int .i64 y) w := by kernel_rfl
end Go.Proofs.YtbgcccfgcdkmdaaGreatDoor
