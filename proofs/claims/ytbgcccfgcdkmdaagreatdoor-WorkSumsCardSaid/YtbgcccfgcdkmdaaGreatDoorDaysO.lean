/- The date of a day: the program's from outside. -/
import Derived.Test.YtbgcccfgcdkmdaaGreatDoorDaysN
namespace Go.Proofs.YtbgcccfgcdkmdaaGreatDoor
open Go.RowKit
/-- A day's date: four numbers. -/
def OfR (c n a y m d : Int) : Prop := (ofE c n ≠ 0 ∧ a = 0 ∧ y = 0 ∧ m = 0 ∧ d = 0) ∨ (ofE c n = 0 ∧ a = c ∧ 1 ≤ c ∧ c ≤ 10 ∧ Dm.Valid c y m d ∧ Dm.dayOf c y m d = n)
theorem OfR.one {c n a y m d a' y' m' d' : Int} (h : OfR c n a y m d) (h' : OfR c n a' y' m' d') : a = a' ∧ y = y' ∧ m = m' ∧ d = d' := by
  rcases h with ⟨e, rfl, rfl, rfl, rfl⟩ | ⟨e, rfl, c1, c2, hv, hd⟩ <;> rcases h' with ⟨e', rfl, rfl, rfl, rfl⟩ | ⟨e', rfl, c1', c2', hv', hd'⟩
  · exact ⟨rfl, rfl, rfl, rfl⟩
  · exact absurd e' e
  · exact absurd e e'
  · have := Dm.date_one _ _ _ _ _ _ _ c1 c2 hv hv' (hd.trans hd'.symm)
    exact ⟨rfl, this.1, this.2.1, this.2.2⟩
theorem ofE_cal {c n : Int} (h : c < 1 ∨ 10 < c) : ofE c n = 2 := if_pos h
theorem ofE_range {c n : Int} (h1 : 1 ≤ c) (h2 : c ≤ 10) (h : n < -4000000 ∨ 4000000 < n) : ofE c n = 4 := (if_neg (by omega)).trans (if_pos h)
theorem ofE_ok {c n : Int} (h1 : 1 ≤ c) (h2 : c ≤ 10) (h3 : -4000000 ≤ n) (h4 : n ≤ 4000000) : ofE c n = 0 := (if_neg (by omega)).trans (if_neg (by omega))
theorem of_ways (c n : Int) : (c < 1 ∨ 10 < c) ∨ (1 ≤ c ∧ c ≤ 10 ∧ (n < -4000000 ∨ 4000000 < n)) ∨ (1 ≤ c ∧ c ≤ 10 ∧ -4000000 ≤ n ∧ n ≤ 4000000) := by omega
/-- What days.Of, and plain.DaysOf and the document's Of, answer: a date and an error. -/
def OfPost2 (c n : Int) (err : Value) (w : World) (e : Ending) (w' : World) : Prop :=
  ∃ a y m d, e = .returned (.tuple #[dateV a y m d, err]) ∧ OfR c n a y m d ∧ Below w.heap.size w w'
set_option maxHeartbeats 2000000 in
theorem dof_cal (c n : Int) (w : World) (hc : c < 1 ∨ 10 < c) : Calls Tryz.prog 70 #[.int .i64 c, .int .i64 n] w fun e w' => e = .returned (.tuple #[dateV 0 0 0 0, errV 2]) ∧ Below w.heap.size w w' := by
  go_enter Tryz.func70, Tryz.ntmps70
  go_wp2_with fail
  refine (find_cal _ _ _ hc).mono ?_; rintro e w1 ⟨rfl, hb1⟩
  have hz1 := hb1.size
  simp only [World.size_alloc] at hz1
  obtain ⟨q1, p1⟩ := carry hb1 w.heap.size (by simp)
  have hs1 : w.heap.size < w1.heap.size := by omega
  have HB1 := Lib.hid (offA hb1); clear hb1
  go_wp2_with fail
  refine bodyPost_ret (v := .tuple #[dateV 0 0 0 0, errV 2]) (by simp [results, Tryz.results70, go_sem, q1, hs1, dateV, errV]) rfl ⟨rfl, ?_⟩
  repeat (first | with_reducible exact HB1.out | (with_reducible refine Below.alloc ?_ (by first | omega | (simp <;> omega)) _) | (with_reducible refine Below.setCell ?_ (by first | omega | (simp <;> omega)) _))
set_option maxHeartbeats 2000000 in
theorem dof_range (c n : Int) (w : World) (hr : RomanT w) (c1 : 1 ≤ c) (c2 : c ≤ 10) (h : n < -4000000 ∨ 4000000 < n) : Calls Tryz.prog 70 #[.int .i64 c, .int .i64 n] w fun e w' => e = .returned (.tuple #[dateV 0 0 0 0, errV 4]) ∧ Below w.heap.size w w' := by
  have HR := Lib.hid hr; clear hr
  rcases h with h | h
  all_goals
    try have h' : ¬ n < -4000000 := by omega
    go_enter Tryz.func70, Tryz.ntmps70
    go_wp2_with fail
    refine (find_ok _ _ _ (by repeat (first | exact HR.out | (with_reducible refine RomanT.alloc ?_ _))) c1 c2 (by omega) (by omega)).mono ?_; rintro e w1 ⟨sf, lf, mf, gf, mc, gc, mB, gB, rfl, hS, hmB, hgB, hb1⟩
    unfold schV
    clear hS hmB hgB
    have hz1 := hb1.size
    simp only [World.size_alloc] at hz1
    obtain ⟨q1, p1⟩ := carry hb1 w.heap.size (by simp)
    have hs1 : w.heap.size < w1.heap.size := by omega
    have HB1 := Lib.hid (offA hb1); clear hb1
    go_wp2_with fail
    refine bodyPost_ret (v := .tuple #[dateV 0 0 0 0, errV 4]) (by simp [results, Tryz.results70, go_sem, q1, hs1, dateV, errV]) rfl ⟨rfl, ?_⟩
    repeat (first | with_reducible exact HB1.out | (with_reducible refine Below.alloc ?_ (by first | omega | (simp <;> omega)) _) | (with_reducible refine Below.setCell ?_ (by first | omega | (simp <;> omega)) _))
theorem dof_all (c n : Int) (w : World) (hr : RomanT w) : Calls Tryz.prog 70 #[.int .i64 c, .int .i64 n] w (OfPost2 c n (errV (ofE c n)) w) := by
  rcases of_ways c n with h | ⟨c1, c2, h⟩ | ⟨c1, c2, h1, h2⟩
  · rw [ofE_cal h]; exact (dof_cal c n w h).mono fun e w' ⟨he, hb⟩ => ⟨0, 0, 0, 0, he, .inl ⟨by rw [ofE_cal h]; decide, rfl, rfl, rfl, rfl⟩, hb⟩
  · rw [ofE_range c1 c2 h]; exact (dof_range c n w hr c1 c2 h).mono fun e w' ⟨he, hb⟩ => ⟨0, 0, 0, 0, he, .inl ⟨by rw [ofE_range c1 c2 h]; decide, rfl, rfl, rfl, rfl⟩, hb⟩
  · rw [ofE_ok c1 c2 h1 h2]; exact (dof_ok c n w hr c1 c2 h1 h2).mono fun e w' ⟨y, m, d, he, hv, hd, hb⟩ => ⟨c, y, m, d, he, .inr ⟨ofE_ok c1 c2 h1 h2, rfl, c1, c2, hv, hd⟩, hb⟩
end Go.Proofs.YtbgcccfgcdkmdaaGreatDoor
