/- What Level's closures answer. -/
import Derived.Test.YthhaopdimilmcaaDoorLevF
import Derived.Test.YthhaopdimilmcaaDoorLevG
namespace Go.Proofs.YthhaopdimilmcaaDoor
open Go.RowKit
set_option maxRecDepth 100000 in
set_option maxHeartbeats 2000000 in
theorem intIndex_any (ob : Option Addr) (m cap : Nat) (u : Nat → Int) (F : FuncId) (caps : Array Value) (q : Nat → Bool) (w : World) (hm : m ≤ 1000000) (hL : IntsR w ob m u)
    (hF : ∀ args w, (callFunc F args).run Tryd.prog w = .ok (.enter F args) w)
    (hq : ∀ j, j < m → ∀ w', Below w.heap.size w w' → Calls Tryd.prog F (#[.int .i64 (u j)] ++ caps) w' fun e w2 => e = .returned (.bool (q j)) ∧ Below w'.heap.size w' w2) :
    Calls Tryd.prog 57 #[.slice ob m cap, .func (Fn.func F) #[] caps] w fun e w' => ∃ i : Int, e = .returned (.int .i64 i) ∧ IdxR q m i ∧ Below w.heap.size w w' := by
  have HL := Lib.hid hL
  have HQ := Lib.hid hq
  clear hL hq
  go_enter Tryd.func57, Tryd.ntmps57
  go_wp2_with fail
  go_loopw [8] (fun c wr => ∃ j : Nat, c = .int .i64 (j : Int) ∧ j ≤ m ∧ Hid (∀ i, i < j → q i = false) ∧ Hid (Below w.heap.size w wr)) (fun c _ => m - (intOf c).toNat)
  case atStart => exact ⟨0, rfl, by omega, Lib.hid fun j hj => absurd hj (Nat.not_lt_zero j), Lib.hid (Below.refl _ _)⟩
  case round =>
    obtain ⟨j, rfl, hj, HN, HB⟩ := hrel
    by_cases hlt : j < m
    · obtain ⟨b, rfl⟩ := HL.out.1 (by omega)
      have c0 := (HL.out.call HB.out).at hlt
      have hc := HQ.out j hlt wr HB.out
      obtain ⟨T0, hT0⟩ : ∃ x, u j = x := ⟨_, rfl⟩
      rw [hT0] at c0 hc
      have HC := Lib.hid hc
      clear hc hT0
      go_wp2_with fail
      refine HC.out.mono ?_; rintro e w2 ⟨rfl, hb⟩
      have HB2 := Lib.hid (thenB HB.out hb)
      clear hb
      cases hqj : q j with
      | true =>
        go_wp2_with fail
        go_ret
        exact ⟨(j : Int), rfl, .inl ⟨j, rfl, hlt, hqj, HN.out⟩, HB2.out⟩
      | false =>
        go_wp2_with fail
        go_roundw
        case rel =>
          refine ⟨j + 1, by go_num, by omega, Lib.hid fun i hi => ?_, HB2⟩
          by_cases e : i = j
          · subst e; exact hqj
          · exact HN.out i (by omega)
        case measure => simp [intOf]; omega
    · obtain rfl : m = j := by omega
      go_wp2_with fail
      go_ret
      exact ⟨-1, rfl, .inr ⟨rfl, HN.out⟩, HB.out⟩
set_option maxHeartbeats 2000000 in
theorem intContains_any (ob : Option Addr) (m cap : Nat) (u : Nat → Int) (F : FuncId) (caps : Array Value) (q : Nat → Bool) (b : Bool) (w : World) (hm : m ≤ 1000000) (hL : IntsR w ob m u)
    (hF : ∀ args w, (callFunc F args).run Tryd.prog w = .ok (.enter F args) w)
    (hq : ∀ j, j < m → ∀ w', Below w.heap.size w w' → Calls Tryd.prog F (#[.int .i64 (u j)] ++ caps) w' fun e w2 => e = .returned (.bool (q j)) ∧ Below w'.heap.size w' w2)
    (hb : b = true ↔ ∃ j, j < m ∧ q j = true) :
    Calls Tryd.prog 46 #[.slice ob m cap, .func (Fn.func F) #[] caps] w fun e w' => e = .returned (.bool b) ∧ Below w.heap.size w w' := by
  have HB := Lib.hid hb
  have HL := Lib.hid hL
  have HQ := Lib.hid hq
  clear hb hL hq
  go_enter Tryd.func46, Tryd.ntmps46
  go_wp2_with fail
  refine (intIndex_any ob m cap u F caps q _ hm HL.out hF HQ.out).mono ?_; rintro e w2 ⟨i, rfl, hi, hb2⟩
  have HI := Lib.hid hi
  have HB2 := Lib.hid hb2
  clear hi hb2
  by_cases h0 : 0 ≤ i
  · have hbt : b = true := HB.out.2 (by
      rcases HI.out with ⟨j, _, h1, h2, _⟩ | ⟨h1, _⟩
      · exact ⟨j, h1, h2⟩
      · omega)
    subst hbt
    go_wp2_with fail
    go_ret
    exact ⟨rfl, HB2.out⟩
  · have hbf : b = false := by
      cases hb : b with
      | false => rfl
      | true =>
        obtain ⟨j, h1, h2⟩ := HB.out.1 hb
        rcases HI.out with ⟨j2, h3, _, _, _⟩ | ⟨_, h3⟩
        · omega
        · rw [h3 j h1] at h2; cases h2
    subst hbf
    go_wp2_with fail
    go_ret
    exact ⟨by show Ending.returned (.bool (decide (0 ≤ i))) = _; have hd : decide (0 ≤ i) = false := decide_eq_false (show ¬ (0 : Int) ≤ i by omega); rw [hd], HB2.out⟩
theorem enter_level1 (args : Array Value) (w : World) : (callFunc 47 args).run Tryd.prog w = .ok (.enter 47 args) w := by kernel_rfl
theorem enter_level2 (args : Array Value) (w : World) : (callFunc 49 args).run Tryd.prog w = .ok (.enter 49 args) w := by kernel_rfl
theorem level1_any (x : Int) (w : World) : Calls Tryd.prog 47 #[.int .i64 x] w fun e w' => e = .returned (.bool (decide (x < 0))) ∧ Below w.heap.size w w' := by
  go_enter Tryd.func47, Tryd.ntmps47
  go_wp2_with fail
  go_ret
  exact ⟨rfl, Below.refl _ _⟩
/-- The closure that asks whether a link's task has no place yet. -/
theorem level2_any (k g : Int) (X K I j n : Nat) (z : Nat → Bool) (w : World) (hX : w.cell? ⟨X, 0, none⟩ = some (.pointer (some ⟨K, 0, none⟩))) (hK : w.cell? ⟨K, 3, none⟩ = some (.slice (some ⟨I, 0, none⟩) n n)) (hO : OwnI w I n (inZ z)) (hj : j < n) :
    Calls Tryd.prog 49 #[.agg #[.int .i64 (j : Int), .int .i64 k, .int .i64 g], .pointer (some ⟨X, 0, none⟩)] w fun e w' => e = .returned (.bool (!z j)) ∧ Below w.heap.size w w' := by
  have hc := (hO.2 j hj).1
  have hXl := World.block_lt_of_cell? _ _ hX
  have hKl := World.block_lt_of_cell? _ _ hK
  have hIl := hO.1
  have j1 : (0 : Int) ≤ (j : Int) := by omega
  have j2 : (j : Int) < (n : Int) := by omega
  clear hO
  cases hz : z j with
  | true =>
    have e1 : inZ z j = 1 := if_pos hz
    rw [e1] at hc
    clear hz e1
    go_enter Tryd.func49, Tryd.ntmps49
    go_wp2_with fail
    go_quiet (fail)
    go_wp2_with fail
    go_ret
    exact ⟨rfl, by with_reducible first | exact Below.refl _ _ | exact Below.alloc (Below.refl _ _) (Nat.le_refl _) _ | exact below_drewN (Below.refl _ _) _ | exact below_drewN (Below.alloc (Below.refl _ _) (Nat.le_refl _) _) _⟩
  | false =>
    have e1 : inZ z j = 0 := if_neg (by simp [hz])
    rw [e1] at hc
    clear hz e1
    go_enter Tryd.func49, Tryd.ntmps49
    go_wp2_with fail
    go_quiet (fail)
    go_wp2_with fail
    go_ret
    exact ⟨rfl, by with_reducible first | exact Below.refl _ _ | exact Below.alloc (Below.refl _ _) (Nat.le_refl _) _ | exact below_drewN (Below.refl _ _) _ | exact below_drewN (Below.alloc (Below.refl _ _) (Nat.le_refl _) _) _⟩
end Go.Proofs.YthhaopdimilmcaaDoor
