/- The program's Path. -/
import Derived.Test.YthhaopdimilmcaaDoorPlnL
import Derived.Test.YthhaopdimilmcaaDoorPlnM
namespace Go.Proofs.YthhaopdimilmcaaDoor
open Go.RowKit
theorem enter_path1 (args : Array Value) (w : World) : (callFunc 45 args).run Tryd.prog w = .ok (.enter 45 args) w := by kernel_rfl
/-- What the path's closure looks into. -/
def PCl (oa : Option Addr) (n cap B X1 X4 X6 at' : Nat) (s t : Nat → Int) (w : World) : Prop :=
  w.cell? ⟨X1, 0, none⟩ = some (.slice oa n cap) ∧ w.cell? ⟨X4, 0, none⟩ = some (.slice (some ⟨B, 0, none⟩) n n) ∧ (w.cell? ⟨X6, 0, none⟩ = some (.int .i64 (at' : Int)) ∧ w.frozen? ⟨X6, 0, none⟩ = false) ∧ OwnS w B n s t
theorem PCl.call {oa : Option Addr} {n cap B X1 X4 X6 at' : Nat} {s t : Nat → Int} {w w' : World} (h : PCl oa n cap B X1 X4 X6 at' s t w) (hb : Below w.heap.size w w') : PCl oa n cap B X1 X4 X6 at' s t w' := by
  obtain ⟨h1, h2, ⟨h3, h4⟩, h5⟩ := h
  exact ⟨(hb.cell (p := ⟨X1, 0, none⟩) (World.block_lt_of_cell? _ _ h1)).trans h1, (hb.cell (p := ⟨X4, 0, none⟩) (World.block_lt_of_cell? _ _ h2)).trans h2, ⟨(hb.cell (p := ⟨X6, 0, none⟩) (World.block_lt_of_cell? _ _ h3)).trans h3, (hb.frozen (p := ⟨X6, 0, none⟩) (World.block_lt_of_cell? _ _ h3)).trans h4⟩, h5.call hb⟩
set_option maxRecDepth 100000 in
set_option maxHeartbeats 4000000 in
theorem path1_any (oa : Option Addr) (cap : Nat) (AL AU : Nat → Option Addr) (CL CU : Nat → Nat) (T : Plan) (n B X1 X4 X6 i k : Nat) (s t : Nat → Int) (w : World) (hnn : T.n = n) (hT : T.Ok) (hs : ∀ i, i < T.n → 0 ≤ s i ∧ s i ≤ 121000000) (hi : i < T.n) (hk : k < T.lc i) (hR : PlanR w oa AL AU CL CU T) (hC : PCl oa n cap B X1 X4 X6 i s t w) :
    Calls Tryd.prog 45 #[.agg #[.int .i64 (T.lt i k), .int .i64 (T.lk i k), .int .i64 (T.lg i k)], .pointer (some ⟨X4, 0, none⟩), .pointer (some ⟨X1, 0, none⟩), .pointer (some ⟨X6, 0, none⟩)] w fun e w' => e = .returned (.bool (decide (s (T.to i k) + T.wait i k = s i))) ∧ Below w.heap.size w w' := by
  obtain ⟨q1, _, q3⟩ := Plan.to_lt hT hi hk
  have hwb := Plan.wait_bd hT hi hk
  have hsi := hs i hi
  have hsz := hs _ q1
  have hW : ∀ w', PlanR w' oa AL AU CL CU T → Calls Tryd.prog 41 #[.slice oa T.n cap, .int .i64 (i : Int), .agg #[.int .i64 (T.lt i k), .int .i64 (T.lk i k), .int .i64 (T.lg i k)]] w' fun e w2 => e = .returned (.int .i64 (T.wait i k)) ∧ Below w'.heap.size w' w2 := fun w' h => wait_any oa cap AL AU CL CU T i k w' hT hi hk h
  have HR := Lib.hid hR
  have HC := Lib.hid hC
  obtain ⟨c1, c4, ⟨c6, _⟩, hO⟩ := hC
  have hz0 := (hO.2 _ (by rw [← hnn]; exact q1)).1.1
  have hi0 := (hO.2 _ (by rw [← hnn]; exact hi)).1.1
  rw [q3] at hW ⊢
  obtain ⟨z, hz⟩ : ∃ x, T.to i k = x := ⟨_, rfl⟩
  obtain ⟨kk, hkk⟩ : ∃ x, T.lk i k = x := ⟨_, rfl⟩
  obtain ⟨gg, hgg⟩ : ∃ x, T.lg i k = x := ⟨_, rfl⟩
  obtain ⟨WT, hWT⟩ : ∃ x, T.wait i k = x := ⟨_, rfl⟩
  rw [hz, hkk, hgg, hWT, hnn] at hW
  rw [hz] at q1 hsz hz0
  rw [hWT] at hwb
  rw [hz, hkk, hgg, hWT]
  rw [hnn] at q1 hi
  obtain ⟨SZ, hSZ⟩ : ∃ x, s z = x := ⟨_, rfl⟩
  obtain ⟨SI, hSI⟩ : ∃ x, s i = x := ⟨_, rfl⟩
  rw [hSZ] at hsz hz0 ⊢
  rw [hSI] at hsi hi0 ⊢
  have HW := Lib.hid hW
  have j1 : (0 : Int) ≤ (z : Int) := by omega
  have j2 : (z : Int) < (n : Int) := by omega
  have i1 : (0 : Int) ≤ (i : Int) := by omega
  have i2 : (i : Int) < (n : Int) := by omega
  have HCA := Lib.hid (HC.out.call (Below.alloc (Below.refl _ _) (Nat.le_refl _) (.cells #[.int .i64 (z : Int), .int .i64 kk, .int .i64 gg] 43)))
  have HRA := Lib.hid (HR.out.alloc (.cells #[.int .i64 (z : Int), .int .i64 kk, .int .i64 gg] 43))
  have HSS := Lib.hid (And.intro hSZ hSI)
  clear hz hkk hgg hWT hSZ hSI q3 hk hs hT hnn hW hR hO c1 c4 c6 hz0 hi0
  obtain ⟨c1, c4, ⟨c6, _⟩, hO⟩ := HCA.out
  have r1 := cell_regrown c1
  have r2 := cell_regrown c4
  have r3 := cell_regrown c6
  have d4 := (hO.2 z q1).1.1
  have d5 := (hO.2 i hi).1.1
  rw [HSS.out.1] at d4
  rw [HSS.out.2] at d5
  have r4 := cell_regrown d4
  have r5 := cell_regrown d5
  have r6 := cell_regrown (show (w.alloc (.cells #[.int .i64 (z : Int), .int .i64 kk, .int .i64 gg] 43)).cell? ⟨w.heap.size, 0, none⟩ = some (.int .i64 (z : Int)) by simp)
  have r7 := cell_regrown (show (w.alloc (.cells #[.int .i64 (z : Int), .int .i64 kk, .int .i64 gg] 43)).cell? ⟨w.heap.size, 1, none⟩ = some (.int .i64 kk) by simp)
  have r8 := cell_regrown (show (w.alloc (.cells #[.int .i64 (z : Int), .int .i64 kk, .int .i64 gg] 43)).cell? ⟨w.heap.size, 2, none⟩ = some (.int .i64 gg) by simp)
  clear hO c1 c4 c6 d4 d5
  go_enter Tryd.func45, Tryd.ntmps45
  go_wp2_with fail
  refine wp_region_below (by kernel_rfl) (by kernel_rfl) ?_
  repeat (go_big_quiet_step ((go_at_call 41; exact Calls.regrown_of (HW.out _ (HRA.out.call (below_regrown _ _ _))))))
  refine wpQuiet_nil ?_
  intro w2 hb2
  have HB2 := Lib.hid ((Below.alloc (Below.refl _ _) (Nat.le_refl _) (.cells #[.int .i64 (z : Int), .int .i64 kk, .int .i64 gg] 43)).trans (hb2.mono (by simp)))
  clear hb2 r1 r2 r3 r4 r5 r6 r7 r8
  go_wp2_with fail
  go_ret
  exact ⟨retB (by by_cases h : SZ + WT = SI <;> simp [h]), HB2.out⟩
/-- What Path answers. -/
def PathR (T : Plan) (w : World) (e : Ending) (w' : World) : Prop := Below w.heap.size w w' ∧ ((T.chk ≠ 0 ∧ e = .returned (.tuple #[.slice none 0 0, errV T.chk])) ∨ (T.chk = 0 ∧ ∃ s, Plan.Fix T s ∧ (∀ i, i < T.n → 0 ≤ s i ∧ s i ≤ 121000000) ∧ ((T.n = 0 ∧ e = .returned (.tuple #[.slice none 0 0, .nilIface])) ∨ (0 < T.n ∧ ∃ v out, Plan.PathL T s out ∧ e = .returned (.tuple #[v, .nilIface]) ∧ IntsL w' w.heap.size v out.reverse))))
/-- The path under way. -/
def PaSt (T : Plan) (w : World) (oa : Option Addr) (n cap B X1 X4 X6 b : Nat) (s : Nat → Int) (o : List Nat) (v : Value) (out : List Nat) (wr : World) : Prop :=
  PCl oa n cap B X1 X4 X6 (out.getD (out.length - 1) 0) s (fun i => s i + T.len i) wr ∧ wr.ownsRow b 3 1 v out.length (ntV out) ∧ Plan.Chain T s out ∧ out.getD 0 0 = Plan.amx T s T.n ∧ Plan.pos o (out.getD (out.length - 1) 0) + out.length ≤ n ∧ Below w.heap.size w wr
theorem PaSt.call {T : Plan} {w : World} {oa : Option Addr} {n cap B X1 X4 X6 b : Nat} {s : Nat → Int} {o : List Nat} {v : Value} {out : List Nat} {wr w' : World} (h : PaSt T w oa n cap B X1 X4 X6 b s o v out wr) (hb : Below wr.heap.size wr w') : PaSt T w oa n cap B X1 X4 X6 b s o v out w' := by
  obtain ⟨h1, h2, h3, h4, h5, h6⟩ := h
  exact ⟨h1.call hb, own_call h2 hb, h3, h4, h5, thenB h6 hb⟩
end Go.Proofs.YthhaopdimilmcaaDoor
