/- The document's Gregorian date of a day. -/
import Derived.Test.YtkfpnlenmdlmjaaGreatDoorDaysP
namespace Go.Proofs.YtkfpnlenmdlmjaaGreatDoor
open Go.RowKit
theorem inI_wf {n : Int} (h : (Lit.int .i64 n).wf = true) : InI n := by
  simp [Lit.wf] at h
  obtain ⟨h1, h2⟩ := h
  have e : IntKind.i64.min = -9223372036854775808 := by decide
  exact ⟨by omega, h2⟩
theorem there_r (n : Int) (w : World) : Calls Tryz.prog 27 #[.int .i64 n] w fun e w' => e = .returned (.tuple #[.int .i64 (rangeR n), .int .i64 (rangeE n)]) ∧ w = w' := there_any n w
theorem field_year (a y m d : Int) (w : World) : (Instr.field 72 (.agg #[.int .i64 a, .int .i64 y, .int .i64 m, .int .i64 d]) 1).run Tryz.prog w = .ok (.int .i64 y) w := by kernel_rfl
set_option maxHeartbeats 1000000 in
theorem greg_any (n : Int) (w : World) : Calls Tryz.prog 58 #[.int .i64 n] w fun e w' => ∃ a y m d, e = .returned (dateV a y m d) ∧ OfR 1 n a y m d ∧ Below w.heap.size w w' := by
  go_enter Tryz.func58, Tryz.ntmps58
  go_wp2_with fail
  refine (refOf_all _ _ _).mono ?_; rintro en w1 ⟨a, y, m, d, rfl, hR, hb1⟩
  unfold dateV
  have hz1 := hb1.size
  simp only [World.size_alloc] at hz1
  obtain ⟨q1, p1⟩ := carry hb1 w.heap.size (by simp)
  have hs1 : w.heap.size < w1.heap.size := by omega
  have HR := Lib.hid (And.intro hR (offA hb1)); clear hR hb1
  go_wp2_with fail
  refine bodyPost_ret (v := dateV a y m d) (by simp [results, Tryz.results58, go_sem, dateV, q1, hs1]) rfl ⟨a, y, m, d, rfl, HR.out.1, ?_⟩
  repeat (first | with_reducible exact HR.out.2 | (with_reducible refine Below.alloc ?_ (by first | omega | (simp <;> omega)) _) | (with_reducible refine Below.setCell ?_ (by first | omega | (simp <;> omega)) _))
end Go.Proofs.YtkfpnlenmdlmjaaGreatDoor
