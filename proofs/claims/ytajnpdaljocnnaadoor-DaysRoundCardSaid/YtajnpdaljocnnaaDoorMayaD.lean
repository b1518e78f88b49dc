/- The law DaysMaya, walked. -/
import Derived.Test.YtajnpdaljocnnaaDoorMayaC
namespace Go.Proofs.YtajnpdaljocnnaaDoor
open Go.RowKit
theorem ErrT.setCell {w : World} (h : ErrT w) {p : Addr} (hp : 0 < p.block) (u : Value) : ErrT (w.setCell p u) :=
  (World.cell?_of_block (Below.heap_setCell w p u 0 (Nat.ne_of_lt hp))).trans h
theorem carry {W w1 : World} (hb : Below W.heap.size W w1) (B : Nat) (h : B < W.heap.size) : (∀ o, w1.cell? ⟨B, o, none⟩ = W.cell? ⟨B, o, none⟩) ∧ (∀ o, w1.frozen? ⟨B, o, none⟩ = W.frozen? ⟨B, o, none⟩) :=
  ⟨fun o => hb.cell (p := ⟨B, o, none⟩) h, fun o => hb.frozen (p := ⟨B, o, none⟩) h⟩
set_option maxRecDepth 100000 in
set_option maxHeartbeats 2000000 in
theorem daysMaya_walk (day f a b c e : Int) (near : Bool) (w : World) (hT : ErrT w) :
    Calls Tryd.prog 3 #[.int .i64 day, .int .i64 f, .agg #[.int .i64 a, .int .i64 b, .int .i64 c, .int .i64 e], .bool near] w fun en w' => en = .returned (.bool true) ∧ Below w.heap.size w w' := by
  have hlt := hT.lt
  obtain ⟨m0, m1, m2, m3, m4, m5, m6, m7, m8, hm⟩ := mayaR_agg day
  have HM := Lib.hid hm; clear hm
  have HT : Hid (ErrT w) := Lib.hid hT; clear hT
  go_enter Tryd.func3, Tryd.ntmps3
  go_wp2_with fail
  refine (plainMaya _ _ (ErrT.alloc HT.out _)).mono ?_; rintro en w1 ⟨rfl, hb1⟩
  rw [HM.out]
  have hT1 : Hid (ErrT w1) := Lib.hid ((ErrT.alloc HT.out _).call hb1)
  have hz1 := hb1.size
  simp only [World.size_alloc] at hz1
  obtain ⟨q1, p1⟩ := carry hb1 w.heap.size (by simp)
  have HB1 := Lib.hid (offA hb1); clear hb1
  have s1 : w.heap.size < w1.heap.size := by omega
  go_wp2_with fail
  refine (refMaya_any _ _).mono ?_; rintro en w2 ⟨rfl, hb2⟩
  rw [HM.out]
  have hT2 : Hid (ErrT w2) := Lib.hid ((ErrT.alloc hT1.out _).call hb2)
  have hz2 := hb2.size
  simp only [World.size_alloc] at hz2
  obtain ⟨q2, p2⟩ := carry hb2 w.heap.size (by first | omega | (simp <;> omega))
  obtain ⟨q3, p3⟩ := carry hb2 w1.heap.size (by first | omega | (simp <;> omega))
  have HB2 := Lib.hid (thenB HB1.out (offA hb2)); clear hb2
  have s2 : w.heap.size < w2.heap.size := by omega
  have s3 : w1.heap.size < w2.heap.size := by omega
  cases near
  all_goals
    go_wp2_with fail
    refine (plainNext _ _ _ _ _ _ ?_).mono ?_
    · repeat (first | exact hT2.out | (with_reducible refine ErrT.alloc ?_ _) | (with_reducible refine ErrT.setCell ?_ (by first | omega | (simp <;> omega)) _))
    rintro en w3 ⟨rfl, hb3⟩
    have hz3 := hb3.size
    simp only [World.size_alloc, World.size_setCell] at hz3
    obtain ⟨q4, _⟩ := carry hb3 w1.heap.size (by first | omega | (simp <;> omega))
    obtain ⟨q5, _⟩ := carry hb3 w2.heap.size (by first | omega | (simp <;> omega))
    obtain ⟨q6, _⟩ := carry hb3 w.heap.size (by first | omega | (simp <;> omega))
    have HB3 : Hid (Below w.heap.size w w3) := Lib.hid (thenB (by repeat (first | with_reducible exact HB2.out | (with_reducible refine Below.alloc ?_ (by first | omega | (simp <;> omega)) _) | (with_reducible refine Below.setCell ?_ (by first | omega | (simp <;> omega)) _))) hb3)
    clear hb3
    go_wp2_with fail
    refine (refNext_any _ _ _ _ _ _).mono ?_
    rintro en w4 ⟨rfl, hb4⟩
    obtain ⟨q7, _⟩ := carry hb4 w1.heap.size (by first | omega | (simp <;> omega))
    obtain ⟨q8, _⟩ := carry hb4 w2.heap.size (by first | omega | (simp <;> omega))
    have HB4 : Hid (Below w.heap.size w w4) := Lib.hid (thenB HB3.out hb4)
    clear hb4
    go_wp2_with fail
    go_ret
    exact ⟨rfl, HB4.out⟩
end Go.Proofs.YtajnpdaljocnnaaDoor
