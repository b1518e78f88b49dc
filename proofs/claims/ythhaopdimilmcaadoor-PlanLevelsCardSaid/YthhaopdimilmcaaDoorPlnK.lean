/- Whether spans fit: the law's fits, where they do. -/
import Derived.Test.YthhaopdimilmcaaDoorPlnJ
namespace Go.Proofs.YthhaopdimilmcaaDoor
open Go.RowKit
/-- A link in a box of the call's own. -/
def Tri (w : World) (X : Nat) (t k g : Int) : Prop := X < w.heap.size ∧ w.cell? ⟨X, 0, none⟩ = some (.int .i64 t) ∧ w.cell? ⟨X, 1, none⟩ = some (.int .i64 k) ∧ w.cell? ⟨X, 2, none⟩ = some (.int .i64 g)
theorem Tri.call {w w' : World} {X : Nat} {t k g : Int} (h : Tri w X t k g) (hb : Below w.heap.size w w') : Tri w' X t k g :=
  ⟨Nat.lt_of_lt_of_le h.1 hb.size, (hb.cell (p := ⟨X, 0, none⟩) h.1).trans h.2.1, (hb.cell (p := ⟨X, 1, none⟩) h.1).trans h.2.2.1, (hb.cell (p := ⟨X, 2, none⟩) h.1).trans h.2.2.2⟩
theorem Tri.new (w : World) (t k g : Int) (e : TypeId) : Tri (w.alloc (.cells #[.int .i64 t, .int .i64 k, .int .i64 g] e)) w.heap.size t k g := ⟨by simp, by simp, by simp, by simp⟩
set_option maxRecDepth 100000 in
set_option maxHeartbeats 8000000 in
theorem fits_yes (oa : Option Addr) (cap : Nat) (AL AU : Nat → Option Addr) (CL CU : Nat → Nat) (T : Plan) (n : Nat) (B c2 : Nat) (f : Nat → Int) (w : World) (hnn : T.n = n) (hT : T.Ok) (hF : T.Feas f) (hbd : ∀ i, i < n → -4000000000000 ≤ f i ∧ f i ≤ 4000000000000) (hR : PlanR w oa AL AU CL CU T) (hO : OwnS w B n f (fun i => f i + T.len i)) :
    Calls Tryd.prog 11 #[.slice oa n cap, .slice (some ⟨B, 0, none⟩) n c2] w fun e w' => e = .returned (.bool true) ∧ Below w.heap.size w w' := by
  have hn6 : n ≤ 60 := by rw [← hnn]; exact hT.size
  have HNN := Lib.hid hnn
  have HOK := Lib.hid hT
  have HF := Lib.hid hF
  have HBD := Lib.hid hbd
  have HR := Lib.hid hR
  have HO := Lib.hid hO
  clear hnn hT hF hbd hR hO
  go_enter Tryd.func11, Tryd.ntmps11
  go_wp2_with fail
  go_loopw [5] (fun c wr => ∃ i : Nat, c = .int .i64 (i : Int) ∧ i ≤ n ∧ Hid (Below w.heap.size w wr)) (fun c _ => n - (intOf c).toNat)
  case atStart => exact ⟨0, rfl, by omega, Lib.hid (Below.refl _ _)⟩
  case round =>
    obtain ⟨i, rfl, hi, HW⟩ := hrel
    obtain ⟨wA, rfl⟩ : ∃ wo : World, wo = wr := ⟨_, rfl⟩
    by_cases hin2 : i < n
    · have HIN := Lib.hid (show i < T.n by rw [HNN.out]; exact hin2)
      have HRA := Lib.hid (HR.out.call HW.out)
      obtain ⟨a, rfl⟩ := HRA.out.1 (by rw [HNN.out]; omega)
      obtain ⟨c0, c1, c2', _⟩ := HRA.out.at HIN.out
      have HTK := Lib.hid (HOK.out.task i HIN.out)
      have hlcb := HTK.out.head.2.2.1
      have hLb := HTK.out.head.1
      have hFb := HBD.out i hin2
      have hnbF := (HF.out i HIN.out).1
      obtain ⟨⟨s0, _⟩, s1, _⟩ := (HO.out.call HW.out).2 i hin2
      obtain ⟨L, hL⟩ : ∃ x, T.len i = x := ⟨_, rfl⟩
      obtain ⟨Nb, hNb⟩ : ∃ x, T.nb i = x := ⟨_, rfl⟩
      obtain ⟨lc, hlcE⟩ : ∃ x, T.lc i = x := ⟨_, rfl⟩
      obtain ⟨al, hal⟩ : ∃ x, AL i = x := ⟨_, rfl⟩
      obtain ⟨cl, hcl⟩ : ∃ x, CL i = x := ⟨_, rfl⟩
      obtain ⟨F, hF⟩ : ∃ x, f i = x := ⟨_, rfl⟩
      rw [hL] at c0 hLb
      rw [hNb] at c1 hnbF
      rw [hal, hlcE, hcl] at c2'
      rw [hlcE] at hlcb
      rw [hF] at s0 hFb hnbF
      obtain ⟨TT, hTT⟩ : ∃ x, F + L = x := ⟨_, rfl⟩
      have HFI := Lib.hid (show f i = F ∧ f i + T.len i = TT by rw [hF, hL]; exact ⟨rfl, hTT⟩)
      simp only [HFI.out.2] at s1
      have g1 : (TT - F != L) = false := by simp; omega
      have g2 : decide (F < Nb) = false := decide_eq_false (by omega)
      have g3 : -5000000000000 ≤ TT ∧ TT ≤ 5000000000000 := by omega
      have HE := Lib.hid (And.intro hL (And.intro hNb (And.intro hlcE hal)))
      have HTT := Lib.hid hTT
      have i1 : (0 : Int) ≤ (i : Int) := by omega
      have i2 : (i : Int) < (n : Int) := by omega
      have r1 := cell_regrown c0
      have r2 := cell_regrown c1
      have r3 := cell_regrown s0
      have r4 := cell_regrown s1
      clear hL hNb hlcE hal hF hTT c0 c1 c2' s0 s1
      go_wp2_with fail
      refine wp_region_below (by kernel_rfl) (by kernel_rfl) ?_
      repeat (go_big_quiet_step (fail))
      refine wpQuiet_nil ?_
      intro w1 hb1
      have HW1 := Lib.hid (thenB HW.out hb1)
      obtain ⟨_, _, d2, _⟩ := (HR.out.call HW1.out).at HIN.out
      rw [HE.out.2.2.2, HE.out.2.2.1, hcl] at d2
      clear hb1 r1 r2 r3 r4 HRA HW hcl
      go_wp2_with fail
      clear d2 g1 g2
      go_loopw [56] (fun c wr => ∃ k : Nat, c = .int .i64 (k : Int) ∧ k ≤ lc ∧ Hid (Below w.heap.size w wr)) (fun c _ => lc - (intOf c).toNat)
      case atStart => exact ⟨0, rfl, by omega, HW1⟩
      case round =>
        clear HW1
        obtain ⟨k, rfl, hk, HW⟩ := hrel
        obtain ⟨wB, rfl⟩ : ∃ wo : World, wo = wr := ⟨_, rfl⟩
        by_cases hkl : k < lc
        · have HKL := Lib.hid (show k < T.lc i by rw [HE.out.2.2.1]; exact hkl)
          have hLK := (HR.out.call HW.out).links HIN.out
          rw [HE.out.2.2.1, HE.out.2.2.2] at hLK
          obtain ⟨b, rfl⟩ := hLK.1 (by omega)
          obtain ⟨d0, d1, d2⟩ := hLK.at hkl
          clear hLK
          obtain ⟨q1, _, q3⟩ := Plan.to_lt HOK.out HIN.out HKL.out
          have hlink := (HTK.out.link k HKL.out).1
          have hgb := hlink.2.2
          have hhold := (Plan.holds_iff T i k hlink.2.1 (f i) (f (T.to i k))).1 ((HF.out i HIN.out).2 k HKL.out)
          have hzL := (HOK.out.task _ q1).head.1
          have hkb := hlink.2.1
          have hcz := (HO.out.call HW.out).2 (T.to i k) (by rw [← HNN.out]; exact q1)
          obtain ⟨⟨z0, _⟩, z1, _⟩ := hcz
          have hzb := HBD.out (T.to i k) (by rw [← HNN.out]; exact q1)
          rw [q3] at d0
          obtain ⟨z, hz⟩ : ∃ x, T.to i k = x := ⟨_, rfl⟩
          obtain ⟨kk, hkk⟩ : ∃ x, T.lk i k = x := ⟨_, rfl⟩
          obtain ⟨gg, hgg⟩ : ∃ x, T.lg i k = x := ⟨_, rfl⟩
          rw [hz] at d0 q1 z0 hzb hzL
          simp only [hz] at z1
          rw [hkk] at d1 hkb
          rw [hgg] at d2 hgb
          rw [hz, hkk, hgg, HE.out.1, HFI.out.1] at hhold
          rw [HNN.out] at q1
          obtain ⟨ZF, hZF⟩ : ∃ x, f z = x := ⟨_, rfl⟩
          obtain ⟨ZT, hZT⟩ : ∃ x, f z + T.len z = x := ⟨_, rfl⟩
          rw [hZF] at z0 hzb
          rw [hZT] at z1
          rw [hZT, hZF, HTT.out] at hhold
          obtain ⟨k1, k2, k3, k4⟩ := hhold
          have hztb : -5000000000000 ≤ ZT ∧ ZT ≤ 5000000000000 := by rw [← hZT, hZF]; omega
          have j1 : (0 : Int) ≤ (z : Int) := by omega
          have j2 : (z : Int) < (n : Int) := by omega
          have hbz := HW.out.size
          have hBz := (HO.out.call HW.out).1
          have HX := Lib.hid ((Tri.new wB (z : Int) kk gg 43).call (Below.alloc (Below.refl _ _) (Nat.le_refl _) (.cells #[.int .i64 ZF, .int .i64 ZT] 38)))
          have hY := Two.new (wB.alloc (.cells #[.int .i64 (z : Int), .int .i64 kk, .int .i64 gg] 43)) ZF ZT 38
          rw [World.size_alloc] at hY
          have HY := Lib.hid hY
          clear hY
          have HW2 := Lib.hid ((HW.out.alloc hbz (.cells #[.int .i64 (z : Int), .int .i64 kk, .int .i64 gg] 43)).alloc (by simp; omega) (.cells #[.int .i64 ZF, .int .i64 ZT] 38))
          clear HW
          have HW := HW2
          clear HW2 hz hkk hgg hZF hZT q3 hlink
          have hkc : kk = 1 ∨ kk = 2 ∨ kk = 3 ∨ kk = 4 := by omega
          rcases hkc with rfl | rfl | rfl | rfl
          · have hg : decide (F < ZT + gg) = false := decide_eq_false (by have := k1 rfl; omega)
            clear k1 k2 k3 k4
            go_wp2_with fail
            clear d0 d1 d2 z0 z1
            obtain ⟨_, b0, b1, b2⟩ := HX.out
            obtain ⟨_, o0, o1⟩ := HY.out
            obtain ⟨⟨s0, _⟩, s1, _⟩ := (HO.out.call HW.out).2 i hin2
            rw [HFI.out.1] at s0
            simp only [HFI.out.2] at s1
            have r1 := cell_regrown b0
            have r2 := cell_regrown b1
            have r3 := cell_regrown b2
            have r4 := cell_regrown o0
            have r5 := cell_regrown o1
            have r6 := cell_regrown s0
            have r7 := cell_regrown s1
            clear b0 b1 b2 o0 o1 s0 s1
            refine wp_region_below (by kernel_rfl) (by kernel_rfl) ?_
            repeat (go_big_quiet_step (fail))
            refine wpQuiet_nil ?_
            intro w10 hb10
            have HX := Lib.hid (HX.out.call hb10)
            have HY := Lib.hid (HY.out.call hb10)
            have HW := Lib.hid (thenB HW.out hb10)
            clear hb10 r1 r2 r3 r4 r5 r6 r7
            go_wp2_with fail
            obtain ⟨_, b0, b1, b2⟩ := HX.out
            obtain ⟨_, o0, o1⟩ := HY.out
            obtain ⟨⟨s0, _⟩, s1, _⟩ := (HO.out.call HW.out).2 i hin2
            rw [HFI.out.1] at s0
            simp only [HFI.out.2] at s1
            have r1 := cell_regrown b0
            have r2 := cell_regrown b1
            have r3 := cell_regrown b2
            have r4 := cell_regrown o0
            have r5 := cell_regrown o1
            have r6 := cell_regrown s0
            have r7 := cell_regrown s1
            clear b0 b1 b2 o0 o1 s0 s1
            refine wp_region_below (by kernel_rfl) (by kernel_rfl) ?_
            repeat (go_big_quiet_step (fail))
            refine wpQuiet_nil ?_
            intro w11 hb11
            have HX := Lib.hid (HX.out.call hb11)
            have HY := Lib.hid (HY.out.call hb11)
            have HW := Lib.hid (thenB HW.out hb11)
            clear hb11 r1 r2 r3 r4 r5 r6 r7
            go_wp2_with fail
            obtain ⟨_, b0, b1, b2⟩ := HX.out
            obtain ⟨_, o0, o1⟩ := HY.out
            obtain ⟨⟨s0, _⟩, s1, _⟩ := (HO.out.call HW.out).2 i hin2
            rw [HFI.out.1] at s0
            simp only [HFI.out.2] at s1
            have r1 := cell_regrown b0
            have r2 := cell_regrown b1
            have r3 := cell_regrown b2
            have r4 := cell_regrown o0
            have r5 := cell_regrown o1
            have r6 := cell_regrown s0
            have r7 := cell_regrown s1
            clear b0 b1 b2 o0 o1 s0 s1
            refine wp_region_below (by kernel_rfl) (by kernel_rfl) ?_
            repeat (go_big_quiet_step (fail))
            refine wpQuiet_nil ?_
            intro w12 hb12
            have HX := Lib.hid (HX.out.call hb12)
            have HY := Lib.hid (HY.out.call hb12)
            have HW := Lib.hid (thenB HW.out hb12)
            clear hb12 r1 r2 r3 r4 r5 r6 r7
            go_wp2_with fail
            obtain ⟨_, b0, b1, b2⟩ := HX.out
            obtain ⟨_, o0, o1⟩ := HY.out
            obtain ⟨⟨s0, _⟩, s1, _⟩ := (HO.out.call HW.out).2 i hin2
            rw [HFI.out.1] at s0
            simp only [HFI.out.2] at s1
            have r1 := cell_regrown b0
            have r2 := cell_regrown b1
            have r3 := cell_regrown b2
            have r4 := cell_regrown o0
            have r5 := cell_regrown o1
            have r6 := cell_regrown s0
            have r7 := cell_regrown s1
            clear b0 b1 b2 o0 o1 s0 s1
            refine wp_region_below (by kernel_rfl) (by kernel_rfl) ?_
            repeat (go_big_quiet_step (fail))
            refine wpQuiet_nil ?_
            intro w13 hb13
            have HX := Lib.hid (HX.out.call hb13)
            have HY := Lib.hid (HY.out.call hb13)
            have HW := Lib.hid (thenB HW.out hb13)
            clear hb13 r1 r2 r3 r4 r5 r6 r7
            go_wp2_with fail
            go_roundw
            case rel => exact ⟨k + 1, by go_num, by omega, HW⟩
            case measure => simp [intOf]; omega
          · have hg : decide (F < ZF + gg) = false := decide_eq_false (by have := k2 rfl; omega)
            clear k1 k2 k3 k4
            go_wp2_with fail
            clear d0 d1 d2 z0 z1
            obtain ⟨_, b0, b1, b2⟩ := HX.out
            obtain ⟨_, o0, o1⟩ := HY.out
            obtain ⟨⟨s0, _⟩, s1, _⟩ := (HO.out.call HW.out).2 i hin2
            rw [HFI.out.1] at s0
            simp only [HFI.out.2] at s1
            have r1 := cell_regrown b0
            have r2 := cell_regrown b1
            have r3 := cell_regrown b2
            have r4 := cell_regrown o0
            have r5 := cell_regrown o1
            have r6 := cell_regrown s0
            have r7 := cell_regrown s1
            clear b0 b1 b2 o0 o1 s0 s1
            refine wp_region_below (by kernel_rfl) (by kernel_rfl) ?_
            repeat (go_big_quiet_step (fail))
            refine wpQuiet_nil ?_
            intro w10 hb10
            have HX := Lib.hid (HX.out.call hb10)
            have HY := Lib.hid (HY.out.call hb10)
            have HW := Lib.hid (thenB HW.out hb10)
            clear hb10 r1 r2 r3 r4 r5 r6 r7
            go_wp2_with fail
            obtain ⟨_, b0, b1, b2⟩ := HX.out
            obtain ⟨_, o0, o1⟩ := HY.out
            obtain ⟨⟨s0, _⟩, s1, _⟩ := (HO.out.call HW.out).2 i hin2
            rw [HFI.out.1] at s0
            simp only [HFI.out.2] at s1
            have r1 := cell_regrown b0
            have r2 := cell_regrown b1
            have r3 := cell_regrown b2
            have r4 := cell_regrown o0
            have r5 := cell_regrown o1
            have r6 := cell_regrown s0
            have r7 := cell_regrown s1
            clear b0 b1 b2 o0 o1 s0 s1
            refine wp_region_below (by kernel_rfl) (by kernel_rfl) ?_
            repeat (go_big_quiet_step (fail))
            refine wpQuiet_nil ?_
            intro w11 hb11
            have HX := Lib.hid (HX.out.call hb11)
            have HY := Lib.hid (HY.out.call hb11)
            have HW := Lib.hid (thenB HW.out hb11)
            clear hb11 r1 r2 r3 r4 r5 r6 r7
            go_wp2_with fail
            obtain ⟨_, b0, b1, b2⟩ := HX.out
            obtain ⟨_, o0, o1⟩ := HY.out
            obtain ⟨⟨s0, _⟩, s1, _⟩ := (HO.out.call HW.out).2 i hin2
            rw [HFI.out.1] at s0
            simp only [HFI.out.2] at s1
            have r1 := cell_regrown b0
            have r2 := cell_regrown b1
            have r3 := cell_regrown b2
            have r4 := cell_regrown o0
            have r5 := cell_regrown o1
            have r6 := cell_regrown s0
            have r7 := cell_regrown s1
            clear b0 b1 b2 o0 o1 s0 s1
            refine wp_region_below (by kernel_rfl) (by kernel_rfl) ?_
            repeat (go_big_quiet_step (fail))
            refine wpQuiet_nil ?_
            intro w12 hb12
            have HX := Lib.hid (HX.out.call hb12)
            have HY := Lib.hid (HY.out.call hb12)
            have HW := Lib.hid (thenB HW.out hb12)
            clear hb12 r1 r2 r3 r4 r5 r6 r7
            go_wp2_with fail
            obtain ⟨_, b0, b1, b2⟩ := HX.out
            obtain ⟨_, o0, o1⟩ := HY.out
            obtain ⟨⟨s0, _⟩, s1, _⟩ := (HO.out.call HW.out).2 i hin2
            rw [HFI.out.1] at s0
            simp only [HFI.out.2] at s1
            have r1 := cell_regrown b0
            have r2 := cell_regrown b1
            have r3 := cell_regrown b2
            have r4 := cell_regrown o0
            have r5 := cell_regrown o1
            have r6 := cell_regrown s0
            have r7 := cell_regrown s1
            clear b0 b1 b2 o0 o1 s0 s1
            refine wp_region_below (by kernel_rfl) (by kernel_rfl) ?_
            repeat (go_big_quiet_step (fail))
            refine wpQuiet_nil ?_
            intro w13 hb13
            have HX := Lib.hid (HX.out.call hb13)
            have HY := Lib.hid (HY.out.call hb13)
            have HW := Lib.hid (thenB HW.out hb13)
            clear hb13 r1 r2 r3 r4 r5 r6 r7
            go_wp2_with fail
            go_roundw
            case rel => exact ⟨k + 1, by go_num, by omega, HW⟩
            case measure => simp [intOf]; omega
          · have hg : decide (TT < ZT + gg) = false := decide_eq_false (by have := k3 rfl; omega)
            clear k1 k2 k3 k4
            go_wp2_with fail
            clear d0 d1 d2 z0 z1
            obtain ⟨_, b0, b1, b2⟩ := HX.out
            obtain ⟨_, o0, o1⟩ := HY.out
            obtain ⟨⟨s0, _⟩, s1, _⟩ := (HO.out.call HW.out).2 i hin2
            rw [HFI.out.1] at s0
            simp only [HFI.out.2] at s1
            have r1 := cell_regrown b0
            have r2 := cell_regrown b1
            have r3 := cell_regrown b2
            have r4 := cell_regrown o0
            have r5 := cell_regrown o1
            have r6 := cell_regrown s0
            have r7 := cell_regrown s1
            clear b0 b1 b2 o0 o1 s0 s1
            refine wp_region_below (by kernel_rfl) (by kernel_rfl) ?_
            repeat (go_big_quiet_step (fail))
            refine wpQuiet_nil ?_
            intro w10 hb10
            have HX := Lib.hid (HX.out.call hb10)
            have HY := Lib.hid (HY.out.call hb10)
            have HW := Lib.hid (thenB HW.out hb10)
            clear hb10 r1 r2 r3 r4 r5 r6 r7
            go_wp2_with fail
            obtain ⟨_, b0, b1, b2⟩ := HX.out
            obtain ⟨_, o0, o1⟩ := HY.out
            obtain ⟨⟨s0, _⟩, s1, _⟩ := (HO.out.call HW.out).2 i hin2
            rw [HFI.out.1] at s0
            simp only [HFI.out.2] at s1
            have r1 := cell_regrown b0
            have r2 := cell_regrown b1
            have r3 := cell_regrown b2
            have r4 := cell_regrown o0
            have r5 := cell_regrown o1
            have r6 := cell_regrown s0
            have r7 := cell_regrown s1
            clear b0 b1 b2 o0 o1 s0 s1
            refine wp_region_below (by kernel_rfl) (by kernel_rfl) ?_
            repeat (go_big_quiet_step (fail))
            refine wpQuiet_nil ?_
            intro w11 hb11
            have HX := Lib.hid (HX.out.call hb11)
            have HY := Lib.hid (HY.out.call hb11)
            have HW := Lib.hid (thenB HW.out hb11)
            clear hb11 r1 r2 r3 r4 r5 r6 r7
            go_wp2_with fail
            obtain ⟨_, b0, b1, b2⟩ := HX.out
            obtain ⟨_, o0, o1⟩ := HY.out
            obtain ⟨⟨s0, _⟩, s1, _⟩ := (HO.out.call HW.out).2 i hin2
            rw [HFI.out.1] at s0
            simp only [HFI.out.2] at s1
            have r1 := cell_regrown b0
            have r2 := cell_regrown b1
            have r3 := cell_regrown b2
            have r4 := cell_regrown o0
            have r5 := cell_regrown o1
            have r6 := cell_regrown s0
            have r7 := cell_regrown s1
            clear b0 b1 b2 o0 o1 s0 s1
            refine wp_region_below (by kernel_rfl) (by kernel_rfl) ?_
            repeat (go_big_quiet_step (fail))
            refine wpQuiet_nil ?_
            intro w12 hb12
            have HX := Lib.hid (HX.out.call hb12)
            have HY := Lib.hid (HY.out.call hb12)
            have HW := Lib.hid (thenB HW.out hb12)
            clear hb12 r1 r2 r3 r4 r5 r6 r7
            go_wp2_with fail
            obtain ⟨_, b0, b1, b2⟩ := HX.out
            obtain ⟨_, o0, o1⟩ := HY.out
            obtain ⟨⟨s0, _⟩, s1, _⟩ := (HO.out.call HW.out).2 i hin2
            rw [HFI.out.1] at s0
            simp only [HFI.out.2] at s1
            have r1 := cell_regrown b0
            have r2 := cell_regrown b1
            have r3 := cell_regrown b2
            have r4 := cell_regrown o0
            have r5 := cell_regrown o1
            have r6 := cell_regrown s0
            have r7 := cell_regrown s1
            clear b0 b1 b2 o0 o1 s0 s1
            refine wp_region_below (by kernel_rfl) (by kernel_rfl) ?_
            repeat (go_big_quiet_step (fail))
            refine wpQuiet_nil ?_
            intro w13 hb13
            have HX := Lib.hid (HX.out.call hb13)
            have HY := Lib.hid (HY.out.call hb13)
            have HW := Lib.hid (thenB HW.out hb13)
            clear hb13 r1 r2 r3 r4 r5 r6 r7
            go_wp2_with fail
            go_roundw
            case rel => exact ⟨k + 1, by go_num, by omega, HW⟩
            case measure => simp [intOf]; omega
          · have hg : decide (TT < ZF + gg) = false := decide_eq_false (by have := k4 rfl; omega)
            clear k1 k2 k3 k4
            go_wp2_with fail
            clear d0 d1 d2 z0 z1
            obtain ⟨_, b0, b1, b2⟩ := HX.out
            obtain ⟨_, o0, o1⟩ := HY.out
            obtain ⟨⟨s0, _⟩, s1, _⟩ := (HO.out.call HW.out).2 i hin2
            rw [HFI.out.1] at s0
            simp only [HFI.out.2] at s1
            have r1 := cell_regrown b0
            have r2 := cell_regrown b1
            have r3 := cell_regrown b2
            have r4 := cell_regrown o0
            have r5 := cell_regrown o1
            have r6 := cell_regrown s0
            have r7 := cell_regrown s1
            clear b0 b1 b2 o0 o1 s0 s1
            refine wp_region_below (by kernel_rfl) (by kernel_rfl) ?_
            repeat (go_big_quiet_step (fail))
            refine wpQuiet_nil ?_
            intro w10 hb10
            have HX := Lib.hid (HX.out.call hb10)
            have HY := Lib.hid (HY.out.call hb10)
            have HW := Lib.hid (thenB HW.out hb10)
            clear hb10 r1 r2 r3 r4 r5 r6 r7
            go_wp2_with fail
            obtain ⟨_, b0, b1, b2⟩ := HX.out
            obtain ⟨_, o0, o1⟩ := HY.out
            obtain ⟨⟨s0, _⟩, s1, _⟩ := (HO.out.call HW.out).2 i hin2
            rw [HFI.out.1] at s0
            simp only [HFI.out.2] at s1
            have r1 := cell_regrown b0
            have r2 := cell_regrown b1
            have r3 := cell_regrown b2
            have r4 := cell_regrown o0
            have r5 := cell_regrown o1
            have r6 := cell_regrown s0
            have r7 := cell_regrown s1
            clear b0 b1 b2 o0 o1 s0 s1
            refine wp_region_below (by kernel_rfl) (by kernel_rfl) ?_
            repeat (go_big_quiet_step (fail))
            refine wpQuiet_nil ?_
            intro w11 hb11
            have HX := Lib.hid (HX.out.call hb11)
            have HY := Lib.hid (HY.out.call hb11)
            have HW := Lib.hid (thenB HW.out hb11)
            clear hb11 r1 r2 r3 r4 r5 r6 r7
            go_wp2_with fail
            obtain ⟨_, b0, b1, b2⟩ := HX.out
            obtain ⟨_, o0, o1⟩ := HY.out
            obtain ⟨⟨s0, _⟩, s1, _⟩ := (HO.out.call HW.out).2 i hin2
            rw [HFI.out.1] at s0
            simp only [HFI.out.2] at s1
            have r1 := cell_regrown b0
            have r2 := cell_regrown b1
            have r3 := cell_regrown b2
            have r4 := cell_regrown o0
            have r5 := cell_regrown o1
            have r6 := cell_regrown s0
            have r7 := cell_regrown s1
            clear b0 b1 b2 o0 o1 s0 s1
            refine wp_region_below (by kernel_rfl) (by kernel_rfl) ?_
            repeat (go_big_quiet_step (fail))
            refine wpQuiet_nil ?_
            intro w12 hb12
            have HX := Lib.hid (HX.out.call hb12)
            have HY := Lib.hid (HY.out.call hb12)
            have HW := Lib.hid (thenB HW.out hb12)
            clear hb12 r1 r2 r3 r4 r5 r6 r7
            go_wp2_with fail
            obtain ⟨_, b0, b1, b2⟩ := HX.out
            obtain ⟨_, o0, o1⟩ := HY.out
            obtain ⟨⟨s0, _⟩, s1, _⟩ := (HO.out.call HW.out).2 i hin2
            rw [HFI.out.1] at s0
            simp only [HFI.out.2] at s1
            have r1 := cell_regrown b0
            have r2 := cell_regrown b1
            have r3 := cell_regrown b2
            have r4 := cell_regrown o0
            have r5 := cell_regrown o1
            have r6 := cell_regrown s0
            have r7 := cell_regrown s1
            clear b0 b1 b2 o0 o1 s0 s1
            refine wp_region_below (by kernel_rfl) (by kernel_rfl) ?_
            repeat (go_big_quiet_step (fail))
            refine wpQuiet_nil ?_
            intro w13 hb13
            have HX := Lib.hid (HX.out.call hb13)
            have HY := Lib.hid (HY.out.call hb13)
            have HW := Lib.hid (thenB HW.out hb13)
            clear hb13 r1 r2 r3 r4 r5 r6 r7
            go_wp2_with fail
            go_roundw
            case rel => exact ⟨k + 1, by go_num, by omega, HW⟩
            case measure => simp [intOf]; omega
        · obtain rfl : lc = k := by omega
          go_wp2_with fail
          go_roundw
          case rel => exact ⟨i + 1, by go_num, by omega, HW⟩
          case measure => simp [intOf]; omega
    · obtain rfl : n = i := by omega
      go_wp2_with fail
      go_ret
      exact ⟨rfl, HW.out⟩
end Go.Proofs.YthhaopdimilmcaaDoor
