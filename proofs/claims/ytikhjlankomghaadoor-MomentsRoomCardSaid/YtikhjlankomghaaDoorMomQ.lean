/- The law MomentsRoom. -/
import Derived.Test.YtikhjlankomghaaDoorMomP
namespace Go.Proofs.YtikhjlankomghaaDoor
open Go.RowKit
theorem tmod1000 (n : Int) : (n.tmod 1000 < 0 → n.tmod 1000 + 1000 = n % 1000) ∧ (¬ n.tmod 1000 < 0 → n.tmod 1000 = n % 1000) := by
  have h1 := Int.mul_tdiv_add_tmod n 1000
  have h2 := Int.natAbs_tmod n 1000
  have h3 := Nat.mod_lt n.natAbs (show 0 < (1000 : Int).natAbs by decide)
  constructor
  · intro h; omega
  · intro h; omega
set_option maxHeartbeats 400000 in
theorem pick1000 (n : Int) (w : World) : Calls Tryd.prog 6 #[.int .i64 n, .int .i64 1000] w fun e w' => e = .returned (.int .i64 (n % 1000)) ∧ w' = w := by
  obtain ⟨g1, g2⟩ := tmod1000 n
  have g3 : -1000 < n.tmod 1000 ∧ n.tmod 1000 < 1000 := by
    have h2 := Int.natAbs_tmod n 1000
    have h3 := Nat.mod_lt n.natAbs (show 0 < (1000 : Int).natAbs by decide)
    omega
  by_cases h : n.tmod 1000 < 0
  · have H := Lib.hid (g1 h)
    clear g1 g2
    obtain ⟨g4, g5⟩ := g3
    go_enter Tryd.func6, Tryd.ntmps6
    go_wp2_with fail
    all_goals go_ret
    all_goals exact ⟨ret1m (by have := H.out; first | exact this | simp_all | omega), rfl⟩
  · have H := Lib.hid (g2 h)
    clear g1 g2
    obtain ⟨g4, g5⟩ := g3
    go_enter Tryd.func6, Tryd.ntmps6
    go_wp2_with fail
    all_goals go_ret
    all_goals exact ⟨ret1m (by have := H.out; first | exact this | simp_all | omega), rfl⟩
theorem enter_sooner (args : Array Value) (w : World) : (callFunc 9 args).run Tryd.prog w = .ok (.enter 9 args) w := by kernel_rfl
set_option maxRecDepth 100000 in
set_option maxHeartbeats 4000000 in
theorem sooner_any (X Y t n : Int) (A4 A5 : Nat) (w : World) (hok : Okv (X, Y)) (h4 : w.cell? ⟨A4, 0, none⟩ = some (.int .i64 t)) (h5 : w.cell? ⟨A5, 0, none⟩ = some (.int .i64 n)) :
    Calls Tryd.prog 9 #[.agg #[.int .i64 X, .int .i64 Y], .pointer (some ⟨A4, 0, none⟩), .pointer (some ⟨A5, 0, none⟩)] w fun e w' => e = .returned (.tuple #[.int .i64 (frR (X, Y) t), .bool (decide (okR (X, Y) t n))]) ∧ Below w.heap.size w w' := by
  obtain ⟨y1, y2, y3⟩ := hok
  unfold loM hiM at *
  simp only at y1 y2 y3
  have e1 : frR (X, Y) t = max X t := rfl
  have l4 := World.block_lt_of_cell? _ _ h4
  have l5 := World.block_lt_of_cell? _ _ h5
  obtain ⟨M, hM⟩ : ∃ M, max X t = M := ⟨_, rfl⟩
  have hMX : X ≤ M := by omega
  have HMM := Lib.hid hM
  have e2 : okR (X, Y) t n ↔ M < Y ∧ n ≤ Y - M := by unfold okR; rw [e1, hM]
  rw [e1, hM]
  have HE := Lib.hid e2
  have HB := Lib.hid (Below.alloc (Below.refl w.heap.size w) (Nat.le_refl _) (.cells #[.int .i64 X, .int .i64 Y] 35))
  have hmm : (if X < t then t else X) = M := by rw [← hM]; split <;> omega
  by_cases h1 : M < Y
  · have d1 : decide (max X t < Y) = true := decide_eq_true (by rw [HMM.out]; exact h1)
    by_cases h2 : n ≤ Y - M
    · have d2 : decide (n ≤ Y - max X t) = true := decide_eq_true (by rw [HMM.out]; exact h2)
      have e3 : decide (okR (X, Y) t n) = true := decide_eq_true (HE.out.2 ⟨h1, h2⟩)
      rw [e3]
      subst hM
      clear e1 e2 e3 h2 hmm
      go_enter Tryd.func9, Tryd.ntmps9
      go_wp2_with fail
      go_quiet (fail)
      go_wp2_with fail
      go_ret2
      exact ⟨rfl, by have := HB.out; with_reducible first | exact below_drewN this _ | exact below_drew this⟩
    · have d2 : decide (n ≤ Y - max X t) = false := decide_eq_false (by rw [HMM.out]; exact h2)
      have e3 : decide (okR (X, Y) t n) = false := decide_eq_false fun h => h2 (HE.out.1 h).2
      rw [e3]
      subst hM
      clear e1 e2 e3 h2 hmm
      go_enter Tryd.func9, Tryd.ntmps9
      go_wp2_with fail
      go_quiet (fail)
      go_wp2_with fail
      go_ret2
      exact ⟨rfl, by have := HB.out; with_reducible first | exact below_drewN this _ | exact below_drew this⟩
  · have d1 : decide (max X t < Y) = false := decide_eq_false (by rw [HMM.out]; exact h1)
    have e3 : decide (okR (X, Y) t n) = false := decide_eq_false fun h => h1 (HE.out.1 h).1
    rw [e3]
    subst hM
    clear e1 e2 e3 h1 hmm
    go_enter Tryd.func9, Tryd.ntmps9
    go_wp2_with fail
    go_quiet (fail)
    go_wp2_with fail
    go_ret2
    exact ⟨rfl, by have := HB.out; with_reducible first | exact below_drewN this _ | exact below_drew this⟩
end Go.Proofs.YtikhjlankomghaaDoor
