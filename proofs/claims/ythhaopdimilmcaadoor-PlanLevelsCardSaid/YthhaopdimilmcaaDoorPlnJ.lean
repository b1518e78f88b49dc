/- The plain package's calls on plans. -/
import Derived.Test.YthhaopdimilmcaaDoorPlnI
namespace Go.Proofs.YthhaopdimilmcaaDoor
open Go.RowKit
/-- What is answered, beside the error's number. -/
def EarlyV (T : Plan) (b : Nat) (v : Value) (x : Int) (w : World) : Prop := (T.chk ≠ 0 ∧ v = .slice none 0 0 ∧ x = T.chk) ∨ (T.chk = 0 ∧ x = 0 ∧ ∃ B s, v = .slice (some ⟨B, 0, none⟩) T.n T.n ∧ b ≤ B ∧ OwnS w B T.n s (fun i => s i + T.len i) ∧ Plan.Fix T s ∧ ∀ i, i < T.n → 0 ≤ s i ∧ s i ≤ 121000000)
def EndV (T : Plan) (_ : Nat) (v : Value) (x : Int) (_ : World) : Prop := (T.chk ≠ 0 ∧ v = .int .i64 0 ∧ x = T.chk) ∨ (T.chk = 0 ∧ x = 0 ∧ ∃ s, v = .int .i64 (Plan.last T s T.n) ∧ Plan.Fix T s ∧ ∀ i, i < T.n → 0 ≤ s i ∧ s i ≤ 121000000)
def LateV (y : Int) (T : Plan) (b : Nat) (v : Value) (x : Int) (w : World) : Prop := (T.chk ≠ 0 ∧ v = .slice none 0 0 ∧ x = T.chk) ∨ (T.chk = 0 ∧ ∃ s, Plan.Fix T s ∧ ((y < Plan.last T s T.n ∧ v = .slice none 0 0 ∧ x = 12) ∨ (Plan.last T s T.n ≤ y ∧ 1099511627776 < y ∧ v = .slice none 0 0 ∧ x = 4) ∨ (Plan.last T s T.n ≤ y ∧ y ≤ 1099511627776 ∧ x = 0 ∧ ∃ B q, v = .slice (some ⟨B, 0, none⟩) T.n T.n ∧ b ≤ B ∧ OwnS w B T.n q (fun i => q i + T.len i) ∧ Plan.Latest T y q ∧ ∀ i, i < T.n → y - 122000000 ≤ q i ∧ q i ≤ y)))
theorem EarlyV.call {T : Plan} {b : Nat} {v : Value} {x : Int} {w w' : World} (h : EarlyV T b v x w) (hb : Below w.heap.size w w') : EarlyV T b v x w' := by
  rcases h with h | ⟨h1, h2, B, s, h3, h4, h5, h6⟩
  · exact .inl h
  · exact .inr ⟨h1, h2, B, s, h3, h4, h5.call hb, h6⟩
theorem EndV.call {T : Plan} {b : Nat} {v : Value} {x : Int} {w w' : World} (h : EndV T b v x w) (_hb : Below w.heap.size w w') : EndV T b v x w' := h
theorem LateV.call {y : Int} {T : Plan} {b : Nat} {v : Value} {x : Int} {w w' : World} (h : LateV y T b v x w) (hb : Below w.heap.size w w') : LateV y T b v x w' := by
  rcases h with h | ⟨h1, s, h2, h | h | ⟨h3, h4, h5, B, q, h6, h7, h8, h9⟩⟩
  · exact .inl h
  · exact .inr ⟨h1, s, h2, .inl h⟩
  · exact .inr ⟨h1, s, h2, .inr (.inl h)⟩
  · exact .inr ⟨h1, s, h2, .inr (.inr ⟨h3, h4, h5, B, q, h6, h7, h8.call hb, h9⟩)⟩
theorem EarlyR.v {T : Plan} {w : World} {e : Ending} {w' : World} (h : EarlyR T w e w') : ∃ v x, e = .returned (.tuple #[v, errV x]) ∧ EarlyV T w.heap.size v x w' ∧ Below w.heap.size w w' := by
  obtain ⟨hb, ⟨h1, h2⟩ | ⟨h1, B, s, h2, h3⟩⟩ := h
  · exact ⟨_, T.chk, h2, .inl ⟨h1, rfl, rfl⟩, hb⟩
  · exact ⟨_, 0, h2, .inr ⟨h1, rfl, B, s, rfl, h3⟩, hb⟩
theorem EndR.v {T : Plan} {w : World} {e : Ending} {w' : World} (h : EndR T w e w') : ∃ v x, e = .returned (.tuple #[v, errV x]) ∧ EndV T w.heap.size v x w' ∧ Below w.heap.size w w' := by
  obtain ⟨hb, ⟨h1, h2⟩ | ⟨h1, s, h2, h3⟩⟩ := h
  · exact ⟨_, T.chk, h2, .inl ⟨h1, rfl, rfl⟩, hb⟩
  · exact ⟨_, 0, h2, .inr ⟨h1, rfl, s, rfl, h3⟩, hb⟩
theorem LateR.v {y : Int} {T : Plan} {w : World} {e : Ending} {w' : World} (h : LateR T y w e w') : ∃ v x, e = .returned (.tuple #[v, errV x]) ∧ LateV y T w.heap.size v x w' ∧ Below w.heap.size w w' := by
  obtain ⟨hb, ⟨h1, h2⟩ | ⟨h1, s, h2, ⟨h3, h4⟩ | ⟨h3, h4, h5⟩ | ⟨h3, h4, B, q, h5, h6⟩⟩⟩ := h
  · exact ⟨_, T.chk, h2, .inl ⟨h1, rfl, rfl⟩, hb⟩
  · exact ⟨_, 12, h4, .inr ⟨h1, s, h2, .inl ⟨h3, rfl, rfl⟩⟩, hb⟩
  · exact ⟨_, 4, h5, .inr ⟨h1, s, h2, .inr (.inl ⟨h3, h4, rfl, rfl⟩)⟩, hb⟩
  · exact ⟨_, 0, h5, .inr ⟨h1, s, h2, .inr (.inr ⟨h3, h4, rfl, B, q, rfl, h6⟩)⟩, hb⟩
set_option maxHeartbeats 2000000 in
theorem plainCheck_any (oa : Option Addr) (cap : Nat) (AL AU : Nat → Option Addr) (CL CU : Nat → Nat) (T : Plan) (n : Nat) (w : World) (hnn : T.n = n) (hT : ErrT w) (hn : n ≤ 9223372036854775807) (hlc : ∀ i, i < n → T.lc i ≤ 9223372036854775807 ∧ T.uc i ≤ 9223372036854775807) (hR : PlanR w oa AL AU CL CU T) :
    Calls Tryd.prog 9 #[.slice oa n cap] w fun e w' => e = .returned (.int .i64 T.chk) ∧ Below w.heap.size w w' := by
  have hcall := check_any oa cap AL AU CL CU T w (by rw [hnn]; exact hn) (by rw [hnn]; exact hlc) hR
  rw [hnn] at hcall
  have HT := Lib.hid hT
  clear hT hR hlc hnn hn
  go_enter Tryd.func9, Tryd.ntmps9
  go_wp2_with fail
  refine hcall.mono ?_; rintro e w1 ⟨rfl, hb1⟩
  have HT1 := Lib.hid (HT.out.call hb1)
  have HB1 := Lib.hid hb1
  clear hb1 hcall
  go_wp2_with fail
  refine (tell_any _ _ HT1.out).mono ?_; rintro e w2 ⟨rfl, hb2⟩
  have HB2 := Lib.hid (thenB HB1.out hb2); clear hb2
  go_wp2_with fail
  go_ret
  exact ⟨rfl, HB2.out⟩
set_option maxHeartbeats 2000000 in
theorem plainEarly_any (oa : Option Addr) (cap : Nat) (AL AU : Nat → Option Addr) (CL CU : Nat → Nat) (T : Plan) (n : Nat) (w : World) (hnn : T.n = n) (hT : ErrT w) (hn : n ≤ 9223372036854775807) (hlc : ∀ i, i < n → T.lc i ≤ 9223372036854775807 ∧ T.uc i ≤ 9223372036854775807) (hR : PlanR w oa AL AU CL CU T) :
    Calls Tryd.prog 8 #[.slice oa n cap] w fun e w' => ∃ v x, e = .returned (.tuple #[v, .int .i64 x]) ∧ EarlyV T w.heap.size v x w' ∧ Below w.heap.size w w' := by
  have hcall := early_any oa cap AL AU CL CU T w (by rw [hnn]; exact hn) (by rw [hnn]; exact hlc) hR
  rw [hnn] at hcall
  have HT := Lib.hid hT
  clear hT hR hlc hnn hn
  go_enter Tryd.func8, Tryd.ntmps8
  go_wp2_with fail
  refine hcall.mono ?_; intro e w1 hE
  obtain ⟨v, x, rfl, hC, hb1⟩ := hE.v
  have HC := Lib.hid hC
  have HT1 := Lib.hid (HT.out.call hb1)
  have HB1 := Lib.hid hb1
  clear hC hb1 hcall hE
  go_wp2_with fail
  refine (tell_any _ _ HT1.out).mono ?_; rintro e w2 ⟨rfl, hb2⟩
  have HC2 := Lib.hid (HC.out.call hb2)
  have HB2 := Lib.hid (thenB HB1.out hb2); clear hb2
  go_wp2_with fail
  go_ret2
  exact ⟨v, x, rfl, HC2.out, HB2.out⟩
set_option maxHeartbeats 2000000 in
theorem plainEnd_any (oa : Option Addr) (cap : Nat) (AL AU : Nat → Option Addr) (CL CU : Nat → Nat) (T : Plan) (n : Nat) (w : World) (hnn : T.n = n) (hT : ErrT w) (hn : n ≤ 9223372036854775807) (hlc : ∀ i, i < n → T.lc i ≤ 9223372036854775807 ∧ T.uc i ≤ 9223372036854775807) (hR : PlanR w oa AL AU CL CU T) :
    Calls Tryd.prog 10 #[.slice oa n cap] w fun e w' => ∃ v x, e = .returned (.tuple #[v, .int .i64 x]) ∧ EndV T w.heap.size v x w' ∧ Below w.heap.size w w' := by
  have hcall := end_any oa cap AL AU CL CU T w (by rw [hnn]; exact hn) (by rw [hnn]; exact hlc) hR
  rw [hnn] at hcall
  have HT := Lib.hid hT
  clear hT hR hlc hnn hn
  go_enter Tryd.func10, Tryd.ntmps10
  go_wp2_with fail
  refine hcall.mono ?_; intro e w1 hE
  obtain ⟨v, x, rfl, hC, hb1⟩ := hE.v
  have HC := Lib.hid hC
  have HT1 := Lib.hid (HT.out.call hb1)
  have HB1 := Lib.hid hb1
  clear hC hb1 hcall hE
  go_wp2_with fail
  refine (tell_any _ _ HT1.out).mono ?_; rintro e w2 ⟨rfl, hb2⟩
  have HC2 := Lib.hid (HC.out.call hb2)
  have HB2 := Lib.hid (thenB HB1.out hb2); clear hb2
  go_wp2_with fail
  go_ret2
  exact ⟨v, x, rfl, HC2.out, HB2.out⟩
set_option maxHeartbeats 2000000 in
theorem plainLate_any (oa : Option Addr) (cap : Nat) (AL AU : Nat → Option Addr) (CL CU : Nat → Nat) (T : Plan) (n : Nat) (y : Int) (w : World) (hnn : T.n = n) (hT : ErrT w) (hn : n ≤ 9223372036854775807) (hlc : ∀ i, i < n → T.lc i ≤ 9223372036854775807 ∧ T.uc i ≤ 9223372036854775807) (hR : PlanR w oa AL AU CL CU T) :
    Calls Tryd.prog 13 #[.slice oa n cap, .int .i64 y] w fun e w' => ∃ v x, e = .returned (.tuple #[v, .int .i64 x]) ∧ LateV y T w.heap.size v x w' ∧ Below w.heap.size w w' := by
  have hcall := late_any oa cap AL AU CL CU T y w (by rw [hnn]; exact hn) (by rw [hnn]; exact hlc) hR
  rw [hnn] at hcall
  have HT := Lib.hid hT
  clear hT hR hlc hnn hn
  go_enter Tryd.func13, Tryd.ntmps13
  go_wp2_with fail
  refine hcall.mono ?_; intro e w1 hE
  obtain ⟨v, x, rfl, hC, hb1⟩ := hE.v
  have HC := Lib.hid hC
  have HT1 := Lib.hid (HT.out.call hb1)
  have HB1 := Lib.hid hb1
  clear hC hb1 hcall hE
  go_wp2_with fail
  refine (tell_any _ _ HT1.out).mono ?_; rintro e w2 ⟨rfl, hb2⟩
  have HC2 := Lib.hid (HC.out.call hb2)
  have HB2 := Lib.hid (thenB HB1.out hb2); clear hb2
  go_wp2_with fail
  go_ret2
  exact ⟨v, x, rfl, HC2.out, HB2.out⟩
theorem tmod500 (n : Int) : (n.tmod 500 < 0 → n.tmod 500 + 500 = n % 500) ∧ (¬ n.tmod 500 < 0 → n.tmod 500 = n % 500) := by
  have h1 := Int.mul_tdiv_add_tmod n 500
  have h2 := Int.natAbs_tmod n 500
  have h3 := Nat.mod_lt n.natAbs (show 0 < (500 : Int).natAbs by decide)
  constructor
  · intro h; omega
  · intro h; omega
set_option maxHeartbeats 400000 in
theorem pick500 (n : Int) (w : World) : Calls Tryd.prog 12 #[.int .i64 n, .int .i64 500] w fun e w' => e = .returned (.int .i64 (n % 500)) ∧ w' = w := by
  obtain ⟨g1, g2⟩ := tmod500 n
  have g3 : -500 < n.tmod 500 ∧ n.tmod 500 < 500 := by
    have h2 := Int.natAbs_tmod n 500
    have h3 := Nat.mod_lt n.natAbs (show 0 < (500 : Int).natAbs by decide)
    omega
  by_cases h : n.tmod 500 < 0
  · have H := Lib.hid (g1 h)
    clear g1 g2
    obtain ⟨g4, g5⟩ := g3
    go_enter Tryd.func12, Tryd.ntmps12
    go_wp2_with fail
    all_goals go_ret
    all_goals exact ⟨ret1 (by have := H.out; first | exact this | simp_all | omega), rfl⟩
  · have H := Lib.hid (g2 h)
    clear g1 g2
    obtain ⟨g4, g5⟩ := g3
    go_enter Tryd.func12, Tryd.ntmps12
    go_wp2_with fail
    all_goals go_ret
    all_goals exact ⟨ret1 (by have := H.out; first | exact this | simp_all | omega), rfl⟩
end Go.Proofs.YthhaopdimilmcaaDoor
