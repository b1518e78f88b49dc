/- The Maya's names of days: the program's and the document's, by contracts. -/
import Derived.Test.YtajnpdaljocnnaaDoorTell
import Derived.Deep.RegionWith
import Derived.Outline
namespace Go.Proofs.YtajnpdaljocnnaaDoor
open Go.RowKit

def iv (n : Int) : Value := .int .i64 n
/-- The round of a day: month, day, number, name. -/
def hd (d : Int) : Int := (d + 1856305 + 348) % 365
def r0 (d : Int) : Int := hd d / 20 + 1
def r1 (d : Int) : Int := hd d % 20
def r2 (d : Int) : Int := (d + 1856305 + 3) % 13 + 1
def r3 (d : Int) : Int := (d + 1856305 + 19) % 20 + 1
def mayaV (d : Int) : Value := .agg #[.int .i64 ((d + 1856305) / 144000), .int .i64 ((d + 1856305) / 7200 % 20), .int .i64 ((d + 1856305) / 360 % 20), .int .i64 ((d + 1856305) / 20 % 18), .int .i64 ((d + 1856305) % 20),
  .int .i64 (r0 d), .int .i64 (r1 d), .int .i64 (r2 d), .int .i64 (r3 d)]
def mayaZ : Value := .agg #[.int .i64 0, .int .i64 0, .int .i64 0, .int .i64 0, .int .i64 0, .int .i64 0, .int .i64 0, .int .i64 0, .int .i64 0]
set_option maxHeartbeats 400000 in
theorem maya_no (d : Int) (w : World) (hd : d < -1856305 ∨ 4000000 < d) :
    Calls Tryd.prog 38 #[.int .i64 d] w fun e w' => e = .returned (.tuple #[mayaZ, errV 4]) ∧ Below w.heap.size w w' := by
  rcases hd with hd | hd
  · go_enter Tryd.func38, Tryd.ntmps38
    go_wp2
    refine bodyPost_ret (v := .tuple #[mayaZ, errV 4]) (by simp [results, Tryd.results38, go_sem, mayaZ, errV]) rfl ⟨rfl, ?_⟩
    repeat (first | exact Below.refl _ _ | (refine Below.setCell ?_ (by simp) _) | (refine Below.alloc ?_ (by simp <;> omega) _))
  · have h' : ¬ d < -1856305 := by omega
    go_enter Tryd.func38, Tryd.ntmps38
    go_wp2
    refine bodyPost_ret (v := .tuple #[mayaZ, errV 4]) (by simp [results, Tryd.results38, go_sem, mayaZ, errV]) rfl ⟨rfl, ?_⟩
    repeat (first | exact Below.refl _ _ | (refine Below.setCell ?_ (by simp) _) | (refine Below.alloc ?_ (by simp <;> omega) _))
set_option maxHeartbeats 400000 in
theorem maya_yes (d : Int) (w : World) (h1 : -1856305 ≤ d) (h2 : d ≤ 4000000) :
    Calls Tryd.prog 38 #[.int .i64 d] w fun e w' => e = .returned (.tuple #[mayaV d, errV 0]) ∧ Below w.heap.size w w' := by
  go_enter Tryd.func38, Tryd.ntmps38
  go_wp2
  refine bodyPost_ret (v := .tuple #[mayaV d, errV 0]) (by simp [results, Tryd.results38, go_sem, mayaV, r0, r1, r2, r3, hd, errV]) rfl ⟨rfl, ?_⟩
  repeat (first | exact Below.refl _ _ | (refine Below.setCell ?_ (by simp) _) | (refine Below.alloc ?_ (by simp <;> omega) _))
set_option maxHeartbeats 400000 in
theorem refMaya_no (d : Int) (w : World) (hd : d < -1856305 ∨ 4000000 < d) :
    Calls Tryd.prog 15 #[.int .i64 d] w fun e w' => e = .returned (.tuple #[mayaZ, .int .i64 4]) ∧ Below w.heap.size w w' := by
  rcases hd with hd | hd
  · go_enter Tryd.func15, Tryd.ntmps15
    go_wp2
    refine bodyPost_ret (v := .tuple #[mayaZ, .int .i64 4]) (by simp [results, Tryd.results15, go_sem, mayaZ]) rfl ⟨rfl, ?_⟩
    repeat (first | exact Below.refl _ _ | (refine Below.setCell ?_ (by simp) _) | (refine Below.alloc ?_ (by simp <;> omega) _))
  · have h' : ¬ d < -1856305 := by omega
    go_enter Tryd.func15, Tryd.ntmps15
    go_wp2
    refine bodyPost_ret (v := .tuple #[mayaZ, .int .i64 4]) (by simp [results, Tryd.results15, go_sem, mayaZ]) rfl ⟨rfl, ?_⟩
    repeat (first | exact Below.refl _ _ | (refine Below.setCell ?_ (by simp) _) | (refine Below.alloc ?_ (by simp <;> omega) _))
theorem comm1 (a : Int) : a + 1 = 1 + a := Int.add_comm _ _
set_option maxHeartbeats 400000 in
theorem refMaya_yes (d : Int) (w : World) (h1 : -1856305 ≤ d) (h2 : d ≤ 4000000) :
    Calls Tryd.prog 15 #[.int .i64 d] w fun e w' => e = .returned (.tuple #[mayaV d, .int .i64 0]) ∧ Below w.heap.size w w' := by
  go_enter Tryd.func15, Tryd.ntmps15
  go_wp2
  refine bodyPost_ret (v := .tuple #[mayaV d, .int .i64 0]) (by simp [results, Tryd.results15, go_sem, mayaV, r0, r1, r2, r3, hd, comm1]) rfl ⟨rfl, ?_⟩
  repeat (first | exact Below.refl _ _ | (refine Below.setCell ?_ (by simp) _) | (refine Below.alloc ?_ (by simp <;> omega) _))
def mayaR (d : Int) : Value := if -1856305 ≤ d ∧ d ≤ 4000000 then mayaV d else mayaZ
def mayaE (d : Int) : Int := if -1856305 ≤ d ∧ d ≤ 4000000 then 0 else 4
theorem maya_any (d : Int) (w : World) : Calls Tryd.prog 38 #[.int .i64 d] w fun e w' => e = .returned (.tuple #[mayaR d, errV (mayaE d)]) ∧ Below w.heap.size w w' := by
  unfold mayaR mayaE
  by_cases h : -1856305 ≤ d ∧ d ≤ 4000000
  · rw [if_pos h, if_pos h]; exact maya_yes d w h.1 h.2
  · rw [if_neg h, if_neg h]; exact maya_no d w (by omega)
theorem refMaya_any (d : Int) (w : World) : Calls Tryd.prog 15 #[.int .i64 d] w fun e w' => e = .returned (.tuple #[mayaR d, .int .i64 (mayaE d)]) ∧ Below w.heap.size w w' := by
  unfold mayaR mayaE
  by_cases h : -1856305 ≤ d ∧ d ≤ 4000000
  · rw [if_pos h, if_pos h]; exact refMaya_yes d w h.1 h.2
  · rw [if_neg h, if_neg h]; exact refMaya_no d w (by omega)
theorem mayaR_agg (d : Int) : ∃ a b c e f g h i j : Int, mayaR d = .agg #[.int .i64 a, .int .i64 b, .int .i64 c, .int .i64 e, .int .i64 f, .int .i64 g, .int .i64 h, .int .i64 i, .int .i64 j] := by
  unfold mayaR; split
  · exact ⟨_, _, _, _, _, _, _, _, _, rfl⟩
  · exact ⟨_, _, _, _, _, _, _, _, _, rfl⟩
set_option maxHeartbeats 1000000 in
theorem plainMaya (d : Int) (w : World) (hT : ErrT w) : Calls Tryd.prog 14 #[.int .i64 d] w fun e w' => e = .returned (.tuple #[mayaR d, .int .i64 (mayaE d)]) ∧ Below w.heap.size w w' := by
  have hlt := hT.lt
  obtain ⟨a, b, c, e, f, g, h, i, j, hm⟩ := mayaR_agg d
  have HM := Lib.hid hm; clear hm
  have HT := Lib.hid hT; clear hT
  go_enter Tryd.func14, Tryd.ntmps14
  go_wp2_with fail
  refine (maya_any _ _).mono ?_; rintro e w1 ⟨rfl, hb1⟩
  rw [HM.out]
  have hz := hb1.size
  simp only [World.size_alloc] at hz
  have q1 : ∀ o, w1.cell? ⟨w.heap.size, o, none⟩ = (w.alloc (.cells #[.int .i64 0, .int .i64 0, .int .i64 0, .int .i64 0, .int .i64 0, .int .i64 0, .int .i64 0, .int .i64 0, .int .i64 0] 25)).cell? ⟨w.heap.size, o, none⟩ := fun o => hb1.cell (p := ⟨w.heap.size, o, none⟩) (by simp)
  have p1 : ∀ o, w1.frozen? ⟨w.heap.size, o, none⟩ = (w.alloc (.cells #[.int .i64 0, .int .i64 0, .int .i64 0, .int .i64 0, .int .i64 0, .int .i64 0, .int .i64 0, .int .i64 0, .int .i64 0] 25)).frozen? ⟨w.heap.size, o, none⟩ := fun o => hb1.frozen (p := ⟨w.heap.size, o, none⟩) (by simp)
  have hT1 := Lib.hid ((HT.out.alloc _).below hb1 (by simp <;> omega))
  have HB := Lib.hid hb1; clear hb1
  go_wp2_with fail
  go_region_with (go_at_call 39; refine (tell_any _ _ ?_).mono ?_; (repeat (first | exact hT1.out | apply ErrT.drew | apply ErrT.alloc)); rintro e w2 ⟨rfl, hb2⟩; have r2 := (fun (o : Nat) => (offD hb2).cell (p := ⟨w1.heap.size, o, none⟩) (by simp)); have q2 := (fun (o : Nat) => (offA (offD hb2)).cell (p := ⟨w.heap.size, o, none⟩) hz); have p2 := (fun (o : Nat) => (offA (offD hb2)).frozen (p := ⟨w.heap.size, o, none⟩) hz))
  all_goals (try go_wp2)
  all_goals refine bodyPost_ret (v := .tuple #[.agg #[.int .i64 a, .int .i64 b, .int .i64 c, .int .i64 e, .int .i64 f, .int .i64 g, .int .i64 h, .int .i64 i, .int .i64 j], .int .i64 (mayaE d)]) (by simp [results, Tryd.results14, go_sem, q1, q2]) rfl ?_
  all_goals
    refine ⟨by rw [HM.out], ?_⟩
    have hA := offA HB.out
    have hB := (offA (offD hb2))
    have hC := hA.trans (hB.mono (by omega))
    repeat (first | with_reducible exact hC | (with_reducible refine Below.setCell ?_ (by simp) _) | (with_reducible refine Below.alloc ?_ (by simp <;> omega) _) | (with_reducible refine Below.drew ?_))
end Go.Proofs.YtajnpdaljocnnaaDoor
