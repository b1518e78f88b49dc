/- The first link that something holds of; how long a task waits. -/
import Derived.Test.YthhaopdimilmcaaDoorPlnB
import Derived.Laws.EntriesVeiled
namespace Go.Proofs.YthhaopdimilmcaaDoor
open Go.RowKit
/-- What an index tells. -/
def IdxR (q : Nat → Bool) (m : Nat) (i : Int) : Prop := (∃ j : Nat, i = (j : Int) ∧ j < m ∧ q j = true ∧ ∀ k, k < j → q k = false) ∨ (i = -1 ∧ ∀ k, k < m → q k = false)
set_option maxRecDepth 100000 in
set_option maxHeartbeats 2000000 in
theorem linkIndex_any (ob : Option Addr) (m cap : Nat) (t k g : Nat → Int) (F : FuncId) (caps : Array Value) (q : Nat → Bool) (w : World) (hm : m ≤ 1000000) (hL : LinksR w ob m t k g)
    (hF : ∀ args w, (callFunc F args).run Tryd.prog w = .ok (.enter F args) w)
    (hq : ∀ j, j < m → ∀ w', Below w.heap.size w w' → Calls Tryd.prog F (#[.agg #[.int .i64 (t j), .int .i64 (k j), .int .i64 (g j)]] ++ caps) w' fun e w2 => e = .returned (.bool (q j)) ∧ Below w'.heap.size w' w2) :
    Calls Tryd.prog 44 #[.slice ob m cap, .func (Fn.func F) #[] caps] w fun e w' => ∃ i : Int, e = .returned (.int .i64 i) ∧ IdxR q m i ∧ Below w.heap.size w w' := by
  have HL := Lib.hid hL
  have HQ := Lib.hid hq
  clear hL hq
  go_enter Tryd.func44, Tryd.ntmps44
  go_wp2_with fail
  go_loopw [8] (fun c wr => ∃ j : Nat, c = .int .i64 (j : Int) ∧ j ≤ m ∧ Hid (∀ i, i < j → q i = false) ∧ Hid (Below w.heap.size w wr)) (fun c _ => m - (intOf c).toNat)
  case atStart => exact ⟨0, rfl, by omega, Lib.hid fun j hj => absurd hj (Nat.not_lt_zero j), Lib.hid (Below.refl _ _)⟩
  case round =>
    obtain ⟨j, rfl, hj, HN, HB⟩ := hrel
    by_cases hlt : j < m
    · obtain ⟨b, rfl⟩ := HL.out.1 (by omega)
      obtain ⟨c0, c1, c2⟩ := (HL.out.call HB.out).at hlt
      have hc := HQ.out j hlt wr HB.out
      obtain ⟨T0, hT0⟩ : ∃ x, t j = x := ⟨_, rfl⟩
      obtain ⟨K0, hK0⟩ : ∃ x, k j = x := ⟨_, rfl⟩
      obtain ⟨G0, hG0⟩ : ∃ x, g j = x := ⟨_, rfl⟩
      rw [hT0] at c0 hc
      rw [hK0] at c1 hc
      rw [hG0] at c2 hc
      have HC := Lib.hid hc
      clear hc hT0 hK0 hG0
      go_wp2_with fail
      refine HC.out.mono ?_; rintro e w2 ⟨rfl, hb⟩
      have HB2 := Lib.hid (thenB HB.out hb)
      clear hb
      cases hqj : q j with
      | true =>
        go_wp2_with fail
        go_ret
        exact ⟨(j : Int), rfl, .inl ⟨j, rfl, hlt, hqj, HN.out⟩, HB2.out⟩
      | false =>
        go_wp2_with fail
        go_roundw
        case rel =>
          refine ⟨j + 1, by go_num, by omega, Lib.hid fun i hi => ?_, HB2⟩
          by_cases e : i = j
          · subst e; exact hqj
          · exact HN.out i (by omega)
        case measure => simp [intOf]; omega
    · obtain rfl : m = j := by omega
      go_wp2_with fail
      go_ret
      exact ⟨-1, rfl, .inr ⟨rfl, HN.out⟩, HB.out⟩
set_option maxHeartbeats 2000000 in
theorem linkContains_any (ob : Option Addr) (m cap : Nat) (t k g : Nat → Int) (F : FuncId) (caps : Array Value) (q : Nat → Bool) (b : Bool) (w : World) (hm : m ≤ 1000000) (hL : LinksR w ob m t k g)
    (hF : ∀ args w, (callFunc F args).run Tryd.prog w = .ok (.enter F args) w)
    (hq : ∀ j, j < m → ∀ w', Below w.heap.size w w' → Calls Tryd.prog F (#[.agg #[.int .i64 (t j), .int .i64 (k j), .int .i64 (g j)]] ++ caps) w' fun e w2 => e = .returned (.bool (q j)) ∧ Below w'.heap.size w' w2)
    (hb : b = true ↔ ∃ j, j < m ∧ q j = true) :
    Calls Tryd.prog 48 #[.slice ob m cap, .func (Fn.func F) #[] caps] w fun e w' => e = .returned (.bool b) ∧ Below w.heap.size w w' := by
  have HB := Lib.hid hb
  have HL := Lib.hid hL
  have HQ := Lib.hid hq
  clear hb hL hq
  go_enter Tryd.func48, Tryd.ntmps48
  go_wp2_with fail
  refine (linkIndex_any ob m cap t k g F caps q _ hm HL.out hF HQ.out).mono ?_; rintro e w2 ⟨i, rfl, hi, hb2⟩
  have HI := Lib.hid hi
  have HB2 := Lib.hid hb2
  clear hi hb2
  by_cases h0 : 0 ≤ i
  · have hbt : b = true := HB.out.2 (by
      rcases HI.out with ⟨j, _, h1, h2, _⟩ | ⟨h1, _⟩
      · exact ⟨j, h1, h2⟩
      · omega)
    subst hbt
    go_wp2_with fail
    go_ret
    exact ⟨rfl, HB2.out⟩
  · have hbf : b = false := by
      cases hb : b with
      | false => rfl
      | true =>
        obtain ⟨j, h1, h2⟩ := HB.out.1 hb
        rcases HI.out with ⟨j2, h3, _, _, _⟩ | ⟨_, h3⟩
        · omega
        · rw [h3 j h1] at h2; cases h2
    subst hbf
    go_wp2_with fail
    go_ret
    exact ⟨by show Ending.returned (.bool (decide (0 ≤ i))) = _; have hd : decide (0 ≤ i) = false := decide_eq_false (show ¬ (0 : Int) ≤ i by omega); rw [hd], HB2.out⟩
theorem enter_order1 (args : Array Value) (w : World) : (callFunc 52 args).run Tryd.prog w = .ok (.enter 52 args) w := by kernel_rfl
/-- The closure that asks whether a link's task is not in yet. -/
theorem order1_any (t k g : Int) (X B n : Nat) (f : Nat → Int) (w : World) (hX : w.cell? ⟨X, 0, none⟩ = some (.slice (some ⟨B, 0, none⟩) n n)) (hO : OwnI w B n f) (h0 : 0 ≤ t) (h1 : t < n) :
    Calls Tryd.prog 52 #[.agg #[.int .i64 t, .int .i64 k, .int .i64 g], .pointer (some ⟨X, 0, none⟩)] w fun e w' => e = .returned (.bool (decide (f t.toNat = 0))) ∧ Below w.heap.size w w' := by
  obtain ⟨i, rfl⟩ := Int.eq_ofNat_of_zero_le h0
  have hc := (hO.2 i (by omega)).1
  have hXl := World.block_lt_of_cell? _ _ hX
  have hBl := hO.1
  rw [Int.toNat_natCast]
  obtain ⟨v, hv⟩ : ∃ v, f i = v := ⟨_, rfl⟩
  rw [hv] at hc ⊢
  clear hv hO
  by_cases hz : v = 0
  · subst hz
    go_enter Tryd.func52, Tryd.ntmps52
    go_wp2_with fail
    go_ret
    exact ⟨rfl, by with_reducible first | exact Below.refl _ _ | exact Below.alloc (Below.refl _ _) (Nat.le_refl _) _⟩
  · have hvb : (v == 0) = false := by simpa using hz
    go_enter Tryd.func52, Tryd.ntmps52
    go_wp2_with fail
    go_ret
    exact ⟨by simp, by with_reducible first | exact Below.refl _ _ | exact Below.alloc (Below.refl _ _) (Nat.le_refl _) _⟩
/-- A link of a plan, as a value. -/
def lkV (T : Plan) (i k : Nat) : Value := .agg #[.int .i64 (T.lt i k), .int .i64 (T.lk i k), .int .i64 (T.lg i k)]
set_option maxRecDepth 100000 in
set_option maxHeartbeats 2000000 in
theorem wait_any (oa : Option Addr) (cap : Nat) (AL AU : Nat → Option Addr) (CL CU : Nat → Nat) (T : Plan) (i k : Nat) (w : World) (hT : T.Ok) (hi : i < T.n) (hk : k < T.lc i) (hR : PlanR w oa AL AU CL CU T) :
    Calls Tryd.prog 41 #[.slice oa T.n cap, .int .i64 (i : Int), .agg #[.int .i64 (T.lt i k), .int .i64 (T.lk i k), .int .i64 (T.lg i k)]] w fun e w' => e = .returned (.int .i64 (T.wait i k)) ∧ Below w.heap.size w w' := by
  obtain ⟨a, rfl⟩ := hR.1 (by omega)
  obtain ⟨q1, _, q3⟩ := Plan.to_lt hT hi hk
  obtain ⟨⟨_, ⟨u1, u2⟩, u3, u4⟩, _⟩ := (hT.task i hi).link k hk
  obtain ⟨c0, _⟩ := hR.at hi
  obtain ⟨d0, _⟩ := hR.at q1
  obtain ⟨⟨e1, e2⟩, _⟩ := (hT.task i hi).head
  obtain ⟨⟨e3, e4⟩, _⟩ := (hT.task _ q1).head
  rw [q3]
  unfold Plan.wait
  obtain ⟨j, hj⟩ : ∃ x, T.to i k = x := ⟨_, rfl⟩
  rw [hj] at d0 q1 e3 e4 ⊢
  obtain ⟨x, hx⟩ : ∃ x, T.len i = x := ⟨_, rfl⟩
  rw [hx] at c0 e1 e2 ⊢
  obtain ⟨y, hy⟩ : ∃ x, T.len j = x := ⟨_, rfl⟩
  rw [hy] at d0 e3 e4 ⊢
  obtain ⟨z, hz⟩ : ∃ x, T.lg i k = x := ⟨_, rfl⟩
  rw [hz] at u3 u4 ⊢
  obtain ⟨d, hd⟩ : ∃ x, T.lk i k = x := ⟨_, rfl⟩
  rw [hd] at u1 u2 ⊢
  obtain ⟨n, hn⟩ : ∃ x, T.n = x := ⟨_, rfl⟩
  rw [hn] at hi q1 ⊢
  have hc : d = 1 ∨ d = 2 ∨ d = 3 ∨ d = 4 := by omega
  have i1 : (0 : Int) ≤ (i : Int) := by omega
  have i2 : (i : Int) < (n : Int) := by omega
  have j1 : (0 : Int) ≤ (j : Int) := by omega
  have j2 : (j : Int) < (n : Int) := by omega
  have b1 := World.block_lt_of_cell? _ _ c0
  have b2 := World.block_lt_of_cell? _ _ d0
  clear q3 hj hx hy hz hd hn hR hT hk u1 u2
  rcases hc with rfl | rfl | rfl | rfl
  all_goals
    go_enter Tryd.func41, Tryd.ntmps41
    go_wp2_with fail
    go_quiet (fail)
    go_wp2_with fail
    go_ret
    exact ⟨rfl, by with_reducible first | exact Below.refl _ _ | exact Below.alloc (Below.refl _ _) (Nat.le_refl _) _ | exact below_drewN (Below.refl _ _) _ | exact below_drewN (Below.alloc (Below.refl _ _) (Nat.le_refl _) _) _⟩
end Go.Proofs.YthhaopdimilmcaaDoor
