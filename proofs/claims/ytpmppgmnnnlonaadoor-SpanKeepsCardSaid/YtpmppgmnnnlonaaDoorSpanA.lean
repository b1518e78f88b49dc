/- How two spans lie: the program's and the document's way. -/
import Derived.Test.YtpmppgmnnnlonaaDoorTell
import Derived.Test.YtpmppgmnnnlonaaDoorSpanBits

import Derived.Test.YtpmppgmnnnlonaaDoorMore
namespace Go.Proofs.YtpmppgmnnnlonaaDoor
open Go.RowKit
/-- What a way answers. -/
def RetW (n : Nat) (w : World) (e : Ending) (w' : World) : Prop := e = .returned (.int .i64 (n : Int)) ∧ Below w.heap.size w w'
set_option maxHeartbeats 400000 in
theorem side_lt (a b : Int) (w : World) (h : a < b) : Calls Tryd.prog 52 #[.int .i64 a, .int .i64 b] w fun e w' => e = .returned (.int .i64 0) ∧ w' = w := by
  go_enter Tryd.func52, Tryd.ntmps52
  go_wp2
  all_goals go_ret
  all_goals exact ⟨rfl, rfl⟩
set_option maxHeartbeats 400000 in
theorem side_eq (a : Int) (w : World) : Calls Tryd.prog 52 #[.int .i64 a, .int .i64 a] w fun e w' => e = .returned (.int .i64 1) ∧ w' = w := by
  go_enter Tryd.func52, Tryd.ntmps52
  go_wp2
  all_goals go_ret
  all_goals exact ⟨rfl, rfl⟩
set_option maxHeartbeats 400000 in
theorem side_gt (a b : Int) (w : World) (h : b < a) : Calls Tryd.prog 52 #[.int .i64 a, .int .i64 b] w fun e w' => e = .returned (.int .i64 2) ∧ w' = w := by
  have h2 : ¬ a < b := by omega
  have h3 : (a == b) = false := by simp; omega
  go_enter Tryd.func52, Tryd.ntmps52
  go_wp2
  all_goals go_ret
  all_goals exact ⟨rfl, rfl⟩
set_option maxHeartbeats 400000 in
theorem way_0 (a b c d : Int) (w : World) (_h0 : a < b) (_h1 : c < d) (h2 : b < c) : Calls Tryd.prog 43 #[.agg #[.int .i64 a, .int .i64 b], .agg #[.int .i64 c, .int .i64 d]] w (RetW 0 w) := by
  go_enter Tryd.func43, Tryd.ntmps43
  go_wp2
  all_goals go_ret
  all_goals exact ⟨rfl, by repeat (first | exact Below.refl _ _ | (refine Below.alloc ?_ (by first | omega | (simp <;> omega)) _))⟩
set_option maxHeartbeats 400000 in
theorem way_1 (a b d : Int) (w : World) (h0 : a < b) (h1 : b < d) : Calls Tryd.prog 43 #[.agg #[.int .i64 a, .int .i64 b], .agg #[.int .i64 b, .int .i64 d]] w (RetW 1 w) := by
  have e0 : (a == d) = false := by simp; omega
  have e1 : (a == b) = false := by simp; omega
  have e2 : (b == d) = false := by simp; omega
  go_enter Tryd.func43, Tryd.ntmps43
  go_wp2
  all_goals go_ret
  all_goals exact ⟨rfl, by repeat (first | exact Below.refl _ _ | (refine Below.alloc ?_ (by first | omega | (simp <;> omega)) _))⟩
set_option maxHeartbeats 400000 in
theorem way_2 (a b c d : Int) (w : World) (h0 : a < b) (_h1 : c < d) (h2 : a < c) (h3 : c < b) (h4 : b < d) : Calls Tryd.prog 43 #[.agg #[.int .i64 a, .int .i64 b], .agg #[.int .i64 c, .int .i64 d]] w (RetW 2 w) := by
  have e0 : (b == c) = false := by simp; omega
  have e1 : (a == d) = false := by simp; omega
  go_enter Tryd.func43, Tryd.ntmps43
  go_wp2_with fail
  go_quiet ((go_at_call 52; (first | with_reducible exact Calls.quiet_of_same (side_lt a c _ h2) | with_reducible exact Calls.quiet_of_same (side_lt b d _ h4))))
  go_wp2_with fail
  all_goals go_ret
  all_goals exact ⟨rfl, by repeat (first | exact Below.refl _ _ | (refine Below.alloc ?_ (by first | omega | (simp <;> omega)) _) | with_reducible refine below_drewN ?_ _)⟩
set_option maxHeartbeats 400000 in
theorem way_3 (a b d : Int) (w : World) (h0 : a < b) (h1 : a < d) (h2 : b < d) : Calls Tryd.prog 43 #[.agg #[.int .i64 a, .int .i64 b], .agg #[.int .i64 a, .int .i64 d]] w (RetW 3 w) := by
  have e0 : (b == a) = false := by simp; omega
  have e1 : (a == d) = false := by simp; omega
  go_enter Tryd.func43, Tryd.ntmps43
  go_wp2_with fail
  go_quiet ((go_at_call 52; (first | with_reducible exact Calls.quiet_of_same (side_eq a _) | with_reducible exact Calls.quiet_of_same (side_lt b d _ h2))))
  go_wp2_with fail
  all_goals go_ret
  all_goals exact ⟨rfl, by repeat (first | exact Below.refl _ _ | (refine Below.alloc ?_ (by first | omega | (simp <;> omega)) _) | with_reducible refine below_drewN ?_ _)⟩
set_option maxHeartbeats 400000 in
theorem way_4 (a b c d : Int) (w : World) (h0 : a < b) (_h1 : c < d) (h2 : c < a) (h3 : b < d) (h4 : a < d) : Calls Tryd.prog 43 #[.agg #[.int .i64 a, .int .i64 b], .agg #[.int .i64 c, .int .i64 d]] w (RetW 4 w) := by
  have e0 : (b == c) = false := by simp; omega
  have e1 : (a == d) = false := by simp; omega
  go_enter Tryd.func43, Tryd.ntmps43
  go_wp2_with fail
  go_quiet ((go_at_call 52; (first | with_reducible exact Calls.quiet_of_same (side_gt a c _ h2) | with_reducible exact Calls.quiet_of_same (side_lt b d _ h3))))
  go_wp2_with fail
  all_goals go_ret
  all_goals exact ⟨rfl, by repeat (first | exact Below.refl _ _ | (refine Below.alloc ?_ (by first | omega | (simp <;> omega)) _) | with_reducible refine below_drewN ?_ _)⟩
set_option maxHeartbeats 400000 in
theorem way_5 (a b c : Int) (w : World) (h0 : a < b) (h1 : c < b) (h2 : c < a) : Calls Tryd.prog 43 #[.agg #[.int .i64 a, .int .i64 b], .agg #[.int .i64 c, .int .i64 b]] w (RetW 5 w) := by
  have e0 : (b == c) = false := by simp; omega
  have e1 : (a == b) = false := by simp; omega
  go_enter Tryd.func43, Tryd.ntmps43
  go_wp2_with fail
  go_quiet ((go_at_call 52; (first | with_reducible exact Calls.quiet_of_same (side_gt a c _ h2) | with_reducible exact Calls.quiet_of_same (side_eq b _))))
  go_wp2_with fail
  all_goals go_ret
  all_goals exact ⟨rfl, by repeat (first | exact Below.refl _ _ | (refine Below.alloc ?_ (by first | omega | (simp <;> omega)) _) | with_reducible refine below_drewN ?_ _)⟩
set_option maxHeartbeats 400000 in
theorem way_6 (a b : Int) (w : World) (h0 : a < b) : Calls Tryd.prog 43 #[.agg #[.int .i64 a, .int .i64 b], .agg #[.int .i64 a, .int .i64 b]] w (RetW 6 w) := by
  have e0 : (b == a) = false := by simp; omega
  have e1 : (a == b) = false := by simp; omega
  go_enter Tryd.func43, Tryd.ntmps43
  go_wp2_with fail
  go_quiet ((go_at_call 52; (first | with_reducible exact Calls.quiet_of_same (side_eq a _) | with_reducible exact Calls.quiet_of_same (side_eq b _))))
  go_wp2_with fail
  all_goals go_ret
  all_goals exact ⟨rfl, by repeat (first | exact Below.refl _ _ | (refine Below.alloc ?_ (by first | omega | (simp <;> omega)) _) | with_reducible refine below_drewN ?_ _)⟩
set_option maxHeartbeats 400000 in
theorem way_7 (a b c : Int) (w : World) (h0 : a < b) (h1 : c < b) (h2 : a < c) : Calls Tryd.prog 43 #[.agg #[.int .i64 a, .int .i64 b], .agg #[.int .i64 c, .int .i64 b]] w (RetW 7 w) := by
  have e0 : (b == c) = false := by simp; omega
  have e1 : (a == b) = false := by simp; omega
  go_enter Tryd.func43, Tryd.ntmps43
  go_wp2_with fail
  go_quiet ((go_at_call 52; (first | with_reducible exact Calls.quiet_of_same (side_lt a c _ h2) | with_reducible exact Calls.quiet_of_same (side_eq b _))))
  go_wp2_with fail
  all_goals go_ret
  all_goals exact ⟨rfl, by repeat (first | exact Below.refl _ _ | (refine Below.alloc ?_ (by first | omega | (simp <;> omega)) _) | with_reducible refine below_drewN ?_ _)⟩
set_option maxHeartbeats 400000 in
theorem way_8 (a b c d : Int) (w : World) (_h0 : a < b) (h1 : c < d) (h2 : a < c) (h3 : d < b) (h4 : c < b) : Calls Tryd.prog 43 #[.agg #[.int .i64 a, .int .i64 b], .agg #[.int .i64 c, .int .i64 d]] w (RetW 8 w) := by
  have e0 : (b == c) = false := by simp; omega
  have e1 : (a == d) = false := by simp; omega
  go_enter Tryd.func43, Tryd.ntmps43
  go_wp2_with fail
  go_quiet ((go_at_call 52; (first | with_reducible exact Calls.quiet_of_same (side_lt a c _ h2) | with_reducible exact Calls.quiet_of_same (side_gt b d _ h3))))
  go_wp2_with fail
  all_goals go_ret
  all_goals exact ⟨rfl, by repeat (first | exact Below.refl _ _ | (refine Below.alloc ?_ (by first | omega | (simp <;> omega)) _) | with_reducible refine below_drewN ?_ _)⟩
set_option maxHeartbeats 400000 in
theorem way_9 (a b d : Int) (w : World) (h0 : a < b) (h1 : a < d) (h2 : d < b) : Calls Tryd.prog 43 #[.agg #[.int .i64 a, .int .i64 b], .agg #[.int .i64 a, .int .i64 d]] w (RetW 9 w) := by
  have e0 : (b == a) = false := by simp; omega
  have e1 : (a == d) = false := by simp; omega
  go_enter Tryd.func43, Tryd.ntmps43
  go_wp2_with fail
  go_quiet ((go_at_call 52; (first | with_reducible exact Calls.quiet_of_same (side_eq a _) | with_reducible exact Calls.quiet_of_same (side_gt b d _ h2))))
  go_wp2_with fail
  all_goals go_ret
  all_goals exact ⟨rfl, by repeat (first | exact Below.refl _ _ | (refine Below.alloc ?_ (by first | omega | (simp <;> omega)) _) | with_reducible refine below_drewN ?_ _)⟩
set_option maxHeartbeats 400000 in
theorem way_10 (a b c d : Int) (w : World) (h0 : a < b) (h1 : c < d) (h2 : c < a) (h3 : a < d) (h4 : d < b) : Calls Tryd.prog 43 #[.agg #[.int .i64 a, .int .i64 b], .agg #[.int .i64 c, .int .i64 d]] w (RetW 10 w) := by
  have e0 : (b == c) = false := by simp; omega
  have e1 : (a == d) = false := by simp; omega
  go_enter Tryd.func43, Tryd.ntmps43
  go_wp2_with fail
  go_quiet ((go_at_call 52; (first | with_reducible exact Calls.quiet_of_same (side_gt a c _ h2) | with_reducible exact Calls.quiet_of_same (side_gt b d _ h4))))
  go_wp2_with fail
  all_goals go_ret
  all_goals exact ⟨rfl, by repeat (first | exact Below.refl _ _ | (refine Below.alloc ?_ (by first | omega | (simp <;> omega)) _) | with_reducible refine below_drewN ?_ _)⟩
set_option maxHeartbeats 400000 in
theorem way_11 (a b c : Int) (w : World) (h0 : a < b) (h1 : c < a) : Calls Tryd.prog 43 #[.agg #[.int .i64 a, .int .i64 b], .agg #[.int .i64 c, .int .i64 a]] w (RetW 11 w) := by
  have e0 : (b == c) = false := by simp; omega
  have e1 : (a == c) = false := by simp; omega
  have e2 : (b == a) = false := by simp; omega
  go_enter Tryd.func43, Tryd.ntmps43
  go_wp2
  all_goals go_ret
  all_goals exact ⟨rfl, by repeat (first | exact Below.refl _ _ | (refine Below.alloc ?_ (by first | omega | (simp <;> omega)) _))⟩
set_option maxHeartbeats 400000 in
theorem way_12 (a b c d : Int) (w : World) (h0 : a < b) (h1 : c < d) (h2 : d < a) : Calls Tryd.prog 43 #[.agg #[.int .i64 a, .int .i64 b], .agg #[.int .i64 c, .int .i64 d]] w (RetW 12 w) := by
  have e0 : (b == c) = false := by simp; omega
  go_enter Tryd.func43, Tryd.ntmps43
  go_wp2
  all_goals go_ret
  all_goals exact ⟨rfl, by repeat (first | exact Below.refl _ _ | (refine Below.alloc ?_ (by first | omega | (simp <;> omega)) _))⟩
set_option maxHeartbeats 400000 in
theorem refWay_0 (a b c d : Int) (w : World) (_h0 : a < b) (_h1 : c < d) (h2 : b < c) : Calls Tryd.prog 30 #[.agg #[.int .i64 a, .int .i64 b], .agg #[.int .i64 c, .int .i64 d]] w (RetW 0 w) := by
  go_enter Tryd.func30, Tryd.ntmps30
  go_wp2
  all_goals go_ret
  all_goals exact ⟨rfl, by repeat (first | exact Below.refl _ _ | (refine Below.alloc ?_ (by first | omega | (simp <;> omega)) _))⟩
set_option maxHeartbeats 400000 in
theorem refWay_1 (a b d : Int) (w : World) (h0 : a < b) (h1 : b < d) : Calls Tryd.prog 30 #[.agg #[.int .i64 a, .int .i64 b], .agg #[.int .i64 b, .int .i64 d]] w (RetW 1 w) := by
  have e0 : (a == d) = false := by simp; omega
  have e1 : (a == b) = false := by simp; omega
  have e2 : (b == d) = false := by simp; omega
  go_enter Tryd.func30, Tryd.ntmps30
  go_wp2
  all_goals go_ret
  all_goals exact ⟨rfl, by repeat (first | exact Below.refl _ _ | (refine Below.alloc ?_ (by first | omega | (simp <;> omega)) _))⟩
set_option maxHeartbeats 400000 in
theorem refWay_2 (a b c d : Int) (w : World) (h0 : a < b) (_h1 : c < d) (h2 : a < c) (h3 : c < b) (h4 : b < d) : Calls Tryd.prog 30 #[.agg #[.int .i64 a, .int .i64 b], .agg #[.int .i64 c, .int .i64 d]] w (RetW 2 w) := by
  have e0 : (b == c) = false := by simp; omega
  have e1 : (a == d) = false := by simp; omega
  have e2 : (a == c) = false := by simp; omega
  have e3 : (b == d) = false := by simp; omega
  go_enter Tryd.func30, Tryd.ntmps30
  go_wp2
  all_goals go_ret
  all_goals exact ⟨rfl, by repeat (first | exact Below.refl _ _ | (refine Below.alloc ?_ (by first | omega | (simp <;> omega)) _))⟩
set_option maxHeartbeats 400000 in
theorem refWay_3 (a b d : Int) (w : World) (h0 : a < b) (h1 : a < d) (h2 : b < d) : Calls Tryd.prog 30 #[.agg #[.int .i64 a, .int .i64 b], .agg #[.int .i64 a, .int .i64 d]] w (RetW 3 w) := by
  have e0 : (b == a) = false := by simp; omega
  have e1 : (a == d) = false := by simp; omega
  have e2 : (b == d) = false := by simp; omega
  go_enter Tryd.func30, Tryd.ntmps30
  go_wp2
  all_goals go_ret
  all_goals exact ⟨rfl, by repeat (first | exact Below.refl _ _ | (refine Below.alloc ?_ (by first | omega | (simp <;> omega)) _))⟩
set_option maxHeartbeats 400000 in
theorem refWay_4 (a b c d : Int) (w : World) (h0 : a < b) (_h1 : c < d) (h2 : c < a) (h3 : b < d) (h4 : a < d) : Calls Tryd.prog 30 #[.agg #[.int .i64 a, .int .i64 b], .agg #[.int .i64 c, .int .i64 d]] w (RetW 4 w) := by
  have e0 : (b == c) = false := by simp; omega
  have e1 : (a == d) = false := by simp; omega
  have e2 : (a == c) = false := by simp; omega
  have e3 : (b == d) = false := by simp; omega
  go_enter Tryd.func30, Tryd.ntmps30
  go_wp2
  all_goals go_ret
  all_goals exact ⟨rfl, by repeat (first | exact Below.refl _ _ | (refine Below.alloc ?_ (by first | omega | (simp <;> omega)) _))⟩
set_option maxHeartbeats 400000 in
theorem refWay_5 (a b c : Int) (w : World) (h0 : a < b) (h1 : c < b) (h2 : c < a) : Calls Tryd.prog 30 #[.agg #[.int .i64 a, .int .i64 b], .agg #[.int .i64 c, .int .i64 b]] w (RetW 5 w) := by
  have e0 : (b == c) = false := by simp; omega
  have e1 : (a == b) = false := by simp; omega
  have e2 : (a == c) = false := by simp; omega
  go_enter Tryd.func30, Tryd.ntmps30
  go_wp2
  all_goals go_ret
  all_goals exact ⟨rfl, by repeat (first | exact Below.refl _ _ | (refine Below.alloc ?_ (by first | omega | (simp <;> omega)) _))⟩
set_option maxHeartbeats 400000 in
theorem refWay_6 (a b : Int) (w : World) (h0 : a < b) : Calls Tryd.prog 30 #[.agg #[.int .i64 a, .int .i64 b], .agg #[.int .i64 a, .int .i64 b]] w (RetW 6 w) := by
  have e0 : (b == a) = false := by simp; omega
  have e1 : (a == b) = false := by simp; omega
  go_enter Tryd.func30, Tryd.ntmps30
  go_wp2
  all_goals go_ret
  all_goals exact ⟨rfl, by repeat (first | exact Below.refl _ _ | (refine Below.alloc ?_ (by first | omega | (simp <;> omega)) _))⟩
set_option maxHeartbeats 400000 in
theorem refWay_7 (a b c : Int) (w : World) (h0 : a < b) (h1 : c < b) (h2 : a < c) : Calls Tryd.prog 30 #[.agg #[.int .i64 a, .int .i64 b], .agg #[.int .i64 c, .int .i64 b]] w (RetW 7 w) := by
  have e0 : (b == c) = false := by simp; omega
  have e1 : (a == b) = false := by simp; omega
  have e2 : (a == c) = false := by simp; omega
  go_enter Tryd.func30, Tryd.ntmps30
  go_wp2
  all_goals go_ret
  all_goals exact ⟨rfl, by repeat (first | exact Below.refl _ _ | (refine Below.alloc ?_ (by first | omega | (simp <;> omega)) _))⟩
set_option maxHeartbeats 400000 in
theorem refWay_8 (a b c d : Int) (w : World) (_h0 : a < b) (h1 : c < d) (h2 : a < c) (h3 : d < b) (h4 : c < b) : Calls Tryd.prog 30 #[.agg #[.int .i64 a, .int .i64 b], .agg #[.int .i64 c, .int .i64 d]] w (RetW 8 w) := by
  have e0 : (b == c) = false := by simp; omega
  have e1 : (a == d) = false := by simp; omega
  have e2 : (a == c) = false := by simp; omega
  have e3 : (b == d) = false := by simp; omega
  go_enter Tryd.func30, Tryd.ntmps30
  go_wp2
  all_goals go_ret
  all_goals exact ⟨rfl, by repeat (first | exact Below.refl _ _ | (refine Below.alloc ?_ (by first | omega | (simp <;> omega)) _))⟩
set_option maxHeartbeats 400000 in
theorem refWay_9 (a b d : Int) (w : World) (h0 : a < b) (h1 : a < d) (h2 : d < b) : Calls Tryd.prog 30 #[.agg #[.int .i64 a, .int .i64 b], .agg #[.int .i64 a, .int .i64 d]] w (RetW 9 w) := by
  have e0 : (b == a) = false := by simp; omega
  have e1 : (a == d) = false := by simp; omega
  have e2 : (b == d) = false := by simp; omega
  go_enter Tryd.func30, Tryd.ntmps30
  go_wp2
  all_goals go_ret
  all_goals exact ⟨rfl, by repeat (first | exact Below.refl _ _ | (refine Below.alloc ?_ (by first | omega | (simp <;> omega)) _))⟩
set_option maxHeartbeats 400000 in
theorem refWay_10 (a b c d : Int) (w : World) (h0 : a < b) (h1 : c < d) (h2 : c < a) (h3 : a < d) (h4 : d < b) : Calls Tryd.prog 30 #[.agg #[.int .i64 a, .int .i64 b], .agg #[.int .i64 c, .int .i64 d]] w (RetW 10 w) := by
  have e0 : (b == c) = false := by simp; omega
  have e1 : (a == d) = false := by simp; omega
  have e2 : (a == c) = false := by simp; omega
  have e3 : (b == d) = false := by simp; omega
  go_enter Tryd.func30, Tryd.ntmps30
  go_wp2
  all_goals go_ret
  all_goals exact ⟨rfl, by repeat (first | exact Below.refl _ _ | (refine Below.alloc ?_ (by first | omega | (simp <;> omega)) _))⟩
set_option maxHeartbeats 400000 in
theorem refWay_11 (a b c : Int) (w : World) (h0 : a < b) (h1 : c < a) : Calls Tryd.prog 30 #[.agg #[.int .i64 a, .int .i64 b], .agg #[.int .i64 c, .int .i64 a]] w (RetW 11 w) := by
  have e0 : (b == c) = false := by simp; omega
  have e1 : (a == c) = false := by simp; omega
  have e2 : (b == a) = false := by simp; omega
  go_enter Tryd.func30, Tryd.ntmps30
  go_wp2
  all_goals go_ret
  all_goals exact ⟨rfl, by repeat (first | exact Below.refl _ _ | (refine Below.alloc ?_ (by first | omega | (simp <;> omega)) _))⟩
set_option maxHeartbeats 400000 in
theorem refWay_12 (a b c d : Int) (w : World) (h0 : a < b) (h1 : c < d) (h2 : d < a) : Calls Tryd.prog 30 #[.agg #[.int .i64 a, .int .i64 b], .agg #[.int .i64 c, .int .i64 d]] w (RetW 12 w) := by
  have e0 : (b == c) = false := by simp; omega
  go_enter Tryd.func30, Tryd.ntmps30
  go_wp2
  all_goals go_ret
  all_goals exact ⟨rfl, by repeat (first | exact Below.refl _ _ | (refine Below.alloc ?_ (by first | omega | (simp <;> omega)) _))⟩
theorem way_any (a b c d : Int) (w : World) (h1 : a < b) (h2 : c < d) : Calls Tryd.prog 43 #[.agg #[.int .i64 a, .int .i64 b], .agg #[.int .i64 c, .int .i64 d]] w (RetW (Sp.way a b c d) w) := by
  rcases Sp.ways a b c d h1 h2 with ⟨e, g⟩ | ⟨e, g⟩ | ⟨e, g⟩ | ⟨e, g⟩ | ⟨e, g⟩ | ⟨e, g⟩ | ⟨e, g⟩ | ⟨e, g⟩ | ⟨e, g⟩ | ⟨e, g⟩ | ⟨e, g⟩ | ⟨e, g⟩ | ⟨e, g⟩
  · rw [e]; clear e
    exact way_0 _ _ _ _ w (by omega) (by omega) (by omega)
  · rw [e]; clear e
    subst g
    exact way_1 _ _ _ w (by omega) (by omega)
  · rw [e]; clear e
    exact way_2 _ _ _ _ w (by omega) (by omega) (by omega) (by omega) (by omega)
  · rw [e]; clear e
    obtain ⟨rfl, g⟩ := g
    exact way_3 _ _ _ w (by omega) (by omega) (by omega)
  · rw [e]; clear e
    exact way_4 _ _ _ _ w (by omega) (by omega) (by omega) (by omega) (by omega)
  · rw [e]; clear e
    obtain ⟨g1, g2, rfl⟩ := g
    exact way_5 _ _ _ w (by omega) (by omega) (by omega)
  · rw [e]; clear e
    obtain ⟨rfl, rfl⟩ := g
    exact way_6 _ _ w (by omega)
  · rw [e]; clear e
    obtain ⟨g1, g2, rfl⟩ := g
    exact way_7 _ _ _ w (by omega) (by omega) (by omega)
  · rw [e]; clear e
    exact way_8 _ _ _ _ w (by omega) (by omega) (by omega) (by omega) (by omega)
  · rw [e]; clear e
    obtain ⟨rfl, g⟩ := g
    exact way_9 _ _ _ w (by omega) (by omega) (by omega)
  · rw [e]; clear e
    exact way_10 _ _ _ _ w (by omega) (by omega) (by omega) (by omega) (by omega)
  · rw [e]; clear e
    subst g
    exact way_11 _ _ _ w (by omega) (by omega)
  · rw [e]; clear e
    exact way_12 _ _ _ _ w (by omega) (by omega) (by omega)
theorem refWay_any (a b c d : Int) (w : World) (h1 : a < b) (h2 : c < d) : Calls Tryd.prog 30 #[.agg #[.int .i64 a, .int .i64 b], .agg #[.int .i64 c, .int .i64 d]] w (RetW (Sp.way a b c d) w) := by
  rcases Sp.ways a b c d h1 h2 with ⟨e, g⟩ | ⟨e, g⟩ | ⟨e, g⟩ | ⟨e, g⟩ | ⟨e, g⟩ | ⟨e, g⟩ | ⟨e, g⟩ | ⟨e, g⟩ | ⟨e, g⟩ | ⟨e, g⟩ | ⟨e, g⟩ | ⟨e, g⟩ | ⟨e, g⟩
  · rw [e]; clear e
    exact refWay_0 _ _ _ _ w (by omega) (by omega) (by omega)
  · rw [e]; clear e
    subst g
    exact refWay_1 _ _ _ w (by omega) (by omega)
  · rw [e]; clear e
    exact refWay_2 _ _ _ _ w (by omega) (by omega) (by omega) (by omega) (by omega)
  · rw [e]; clear e
    obtain ⟨rfl, g⟩ := g
    exact refWay_3 _ _ _ w (by omega) (by omega) (by omega)
  · rw [e]; clear e
    exact refWay_4 _ _ _ _ w (by omega) (by omega) (by omega) (by omega) (by omega)
  · rw [e]; clear e
    obtain ⟨g1, g2, rfl⟩ := g
    exact refWay_5 _ _ _ w (by omega) (by omega) (by omega)
  · rw [e]; clear e
    obtain ⟨rfl, rfl⟩ := g
    exact refWay_6 _ _ w (by omega)
  · rw [e]; clear e
    obtain ⟨g1, g2, rfl⟩ := g
    exact refWay_7 _ _ _ w (by omega) (by omega) (by omega)
  · rw [e]; clear e
    exact refWay_8 _ _ _ _ w (by omega) (by omega) (by omega) (by omega) (by omega)
  · rw [e]; clear e
    obtain ⟨rfl, g⟩ := g
    exact refWay_9 _ _ _ w (by omega) (by omega) (by omega)
  · rw [e]; clear e
    exact refWay_10 _ _ _ _ w (by omega) (by omega) (by omega) (by omega) (by omega)
  · rw [e]; clear e
    subst g
    exact refWay_11 _ _ _ w (by omega) (by omega)
  · rw [e]; clear e
    exact refWay_12 _ _ _ _ w (by omega) (by omega) (by omega)
end Go.Proofs.YtpmppgmnnnlonaaDoor
