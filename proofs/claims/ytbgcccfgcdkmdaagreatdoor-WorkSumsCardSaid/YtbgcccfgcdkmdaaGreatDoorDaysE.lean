/- find, Leap, Months, Length, Weekday: the program's, and from outside. -/
import Derived.Test.YtbgcccfgcdkmdaaGreatDoorDaysD
namespace Go.Proofs.YtbgcccfgcdkmdaaGreatDoor
open Go.RowKit
/-- What is wrong with a calendar and a year: 2, 4, or nothing: 0. -/
def yearE (c y : Int) : Int := if c < 1 ∨ 10 < c then 2 else if y < -20000 ∨ 20000 < y then 4 else 0
def FindRange (c : Int) (w : World) (e : Ending) (w' : World) : Prop :=
  ∃ sf lf mf gf mc gc, e = .returned (.tuple #[schV c sf lf mf gf mc gc, .iface 28 (.int .i64 4)]) ∧ Below w.heap.size w w'
def FindOk (c : Int) (w : World) (e : Ending) (w' : World) : Prop :=
  ∃ sf lf mf gf mc gc mB gB, e = .returned (.tuple #[schV c sf lf mf gf mc gc, .nilIface]) ∧ Sch c w' sf lf mf gf mc gc mB gB ∧ NewB w mB ∧ NewB w gB ∧ Below w.heap.size w w'
theorem cell_set {w : World} {p : Addr} {u : Value} {B o : Nat} (h : B ≠ p.block) : (w.setCell p u).cell? ⟨B, o, none⟩ = w.cell? ⟨B, o, none⟩ := World.cell?_of_block (Below.heap_setCell w p u B h)
theorem cell_alloc {w : World} {x : Obj} {B o : Nat} (h : B < w.heap.size) : (w.alloc x).cell? ⟨B, o, none⟩ = w.cell? ⟨B, o, none⟩ := World.cell?_alloc_lt _ _ ⟨B, o, none⟩ h
theorem NewB.ne {w : World} {o : Obj} {B : Nat} (h : NewB (w.alloc o) B) (hr : RomanT w) : B ≠ w.heap.size := by
  have := hr.lt
  rcases h with h | h
  · omega
  · simp only [World.size_alloc] at h; omega
theorem NewB.off {w : World} {o : Obj} {B : Nat} (h : NewB (w.alloc o) B) : NewB w B := by
  rcases h with h | h
  · exact .inl h
  · simp only [World.size_alloc] at h; exact .inr (by omega)
set_option maxHeartbeats 1000000 in
theorem find_cal (c y : Int) (w : World) (hc : c < 1 ∨ 10 < c) : Calls Tryz.prog 91 #[.int .i64 c, .int .i64 y] w fun e w' => e = .returned (.tuple #[.agg #[.int .i64 0, .nilFunc, .nilFunc, .nilFunc, .nilFunc], .iface 28 (.int .i64 2)]) ∧ Below w.heap.size w w' := by
  go_enter Tryz.func91, Tryz.ntmps91
  go_wp2_with fail
  refine (of_none _ _ hc).mono ?_; rintro e w1 ⟨rfl, hb1⟩
  have hz1 := hb1.size
  simp only [World.size_alloc] at hz1
  obtain ⟨q1, p1⟩ := carry hb1 w.heap.size (by simp)
  have hs1 : w.heap.size < w1.heap.size := by omega
  have HB1 := Lib.hid (offA hb1); clear hb1
  go_wp2_with fail
  refine bodyPost_ret (v := .tuple #[.agg #[.int .i64 0, .nilFunc, .nilFunc, .nilFunc, .nilFunc], .iface 28 (.int .i64 2)]) (by simp [results, Tryz.results91, go_sem, q1, hs1]) rfl ⟨rfl, ?_⟩
  repeat (first | with_reducible exact HB1.out | (with_reducible refine Below.alloc ?_ (by first | omega | (simp <;> omega)) _) | (with_reducible refine Below.setCell ?_ (by first | omega | (simp <;> omega)) _))
set_option maxHeartbeats 1000000 in
theorem find_range (c y : Int) (w : World) (hr : RomanT w) (h1 : 1 ≤ c) (h2 : c ≤ 10) (hy : y < -20000 ∨ 20000 < y) : Calls Tryz.prog 91 #[.int .i64 c, .int .i64 y] w (FindRange c w) := by
  have HR := Lib.hid hr; clear hr
  rcases hy with hy | hy
  all_goals
    try have hy' : ¬ y < -20000 := by omega
    go_enter Tryz.func91, Tryz.ntmps91
    go_wp2_with fail
    refine (of_any _ _ (RomanT.alloc HR.out _) h1 h2).mono ?_; rintro e w1 ⟨sf, lf, mf, gf, mc, gc, mB, gB, rfl, hS, hmB, hgB, hb1⟩
    unfold schV
    clear hS hmB hgB
    have hz1 := hb1.size
    simp only [World.size_alloc] at hz1
    obtain ⟨q1, p1⟩ := carry hb1 w.heap.size (by simp)
    have hs1 : w.heap.size < w1.heap.size := by omega
    have HB1 := Lib.hid (offA hb1); clear hb1
    go_wp2_with fail
    refine bodyPost_ret (v := .tuple #[schV c sf lf mf gf mc gc, .iface 28 (.int .i64 4)]) (by simp [results, Tryz.results91, go_sem, q1, hs1, schV]) rfl ⟨sf, lf, mf, gf, mc, gc, rfl, ?_⟩
    repeat (first | with_reducible exact HB1.out | (with_reducible refine Below.alloc ?_ (by first | omega | (simp <;> omega)) _) | (with_reducible refine Below.setCell ?_ (by first | omega | (simp <;> omega)) _))
set_option maxHeartbeats 1000000 in
theorem find_ok (c y : Int) (w : World) (hr : RomanT w) (h1 : 1 ≤ c) (h2 : c ≤ 10) (hy1 : -20000 ≤ y) (hy2 : y ≤ 20000) : Calls Tryz.prog 91 #[.int .i64 c, .int .i64 y] w (FindOk c w) := by
  have HR := Lib.hid hr; clear hr
  go_enter Tryz.func91, Tryz.ntmps91
  go_wp2_with fail
  refine (of_any _ _ (RomanT.alloc HR.out _) h1 h2).mono ?_; rintro e w1 ⟨sf, lf, mf, gf, mc, gc, mB, gB, rfl, hS, hmB, hgB, hb1⟩
  unfold schV
  have HS := Lib.hid (And.intro hS (And.intro hmB hgB)); clear hS hmB hgB
  have hz1 := hb1.size
  simp only [World.size_alloc] at hz1
  obtain ⟨q1, p1⟩ := carry hb1 w.heap.size (by simp)
  have hs1 : w.heap.size < w1.heap.size := by omega
  have HB1 := Lib.hid (offA hb1); clear hb1
  go_wp2_with fail
  refine bodyPost_ret (v := .tuple #[schV c sf lf mf gf mc gc, .nilIface]) (by simp [results, Tryz.results91, go_sem, q1, hs1, schV]) rfl ⟨sf, lf, mf, gf, mc, gc, mB, gB, rfl, ?_, HS.out.2.1.off, HS.out.2.2.off, ?_⟩
  · have hm := HS.out.2.1.ne HR.out
    have hg := HS.out.2.2.ne HR.out
    have l1 := HS.out.1.mlt
    have l2 := HS.out.1.glt
    refine HS.out.1.move (by simp) ?_ ?_
    · refine (cell_alloc (by simp; exact l1)).trans ?_
      iterate 5 refine (cell_set (p := ⟨_, _, _⟩) hm).trans ?_
      rfl
    · refine (cell_alloc (by simp; exact l2)).trans ?_
      iterate 5 refine (cell_set (p := ⟨_, _, _⟩) hg).trans ?_
      rfl
  · repeat (first | with_reducible exact HB1.out | (with_reducible refine Below.alloc ?_ (by first | omega | (simp <;> omega)) _) | (with_reducible refine Below.setCell ?_ (by first | omega | (simp <;> omega)) _))
end Go.Proofs.YtbgcccfgcdkmdaaGreatDoor
