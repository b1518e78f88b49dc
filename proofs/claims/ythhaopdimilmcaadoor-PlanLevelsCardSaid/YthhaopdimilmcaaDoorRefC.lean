/- The document's soonest, Early, End. -/
import Derived.Test.YthhaopdimilmcaaDoorRefB
import Derived.Test.YthhaopdimilmcaaDoorPlnP
namespace Go.Proofs.YthhaopdimilmcaaDoor
open Go.RowKit
theorem mx_bd2 {T : Plan} (h : T.Ok) {s : Nat → Int} (hs : ∀ j, j < T.n → 0 ≤ s j ∧ s j ≤ 200000000) {i : Nat} (hi : i < T.n) {m : Nat} (hm : m ≤ T.lc i) : 0 ≤ Plan.mx T s i m ∧ Plan.mx T s i m ≤ 202000000 := by
  obtain ⟨⟨_, ⟨a1, a2⟩, _⟩, _, _⟩ := h.task i hi
  have h1 := (Plan.mx_le (T := T) (s := s) (i := i) m).1 (Int.le_refl _)
  refine ⟨by have := h1.1; omega, (Plan.mx_le m).2 ⟨by omega, fun k hk => ?_⟩⟩
  have h2 := Plan.wait_bd h hi (show k < T.lc i by omega)
  have h3 := hs _ (Plan.to_lt h hi (show k < T.lc i by omega)).1
  omega
set_option maxRecDepth 100000 in
set_option maxHeartbeats 8000000 in
theorem soonest_any (oa : Option Addr) (cap : Nat) (AL AU : Nat → Option Addr) (CL CU : Nat → Nat) (T : Plan) (n B c2 i : Nat) (s t : Nat → Int) (w : World) (hnn : T.n = n) (hT : T.Ok) (hi : i < n) (hs : ∀ j, j < n → 0 ≤ s j ∧ s j ≤ 200000000) (ht : ∀ k, k < T.lc i → t (T.to i k) = s (T.to i k) + T.len (T.to i k)) (hR : PlanR w oa AL AU CL CU T) (hO : OwnS w B n s t) :
    Calls Tryd.prog 35 #[.slice oa n cap, .slice (some ⟨B, 0, none⟩) n c2, .int .i64 (i : Int)] w fun e w' => e = .returned (.int .i64 (Plan.mx T s i (T.lc i))) ∧ Below w.heap.size w w' := by
  have HNN := Lib.hid hnn
  have HOK := Lib.hid hT
  have HSB := Lib.hid hs
  have HTL := Lib.hid ht
  have HR := Lib.hid hR
  have HO := Lib.hid hO
  have HIN := Lib.hid (show i < T.n by rw [hnn]; exact hi)
  have hn6 : n ≤ 60 := by rw [← hnn]; exact hT.size
  clear hnn hT hs ht hR hO
  obtain ⟨a, rfl⟩ := HR.out.1 (by rw [HNN.out]; omega)
  obtain ⟨c0, c1, t2, -⟩ := HR.out.at HIN.out
  have hlcb := (HOK.out.task i HIN.out).head.2.2.1
  have hLb := (HOK.out.task i HIN.out).head.1
  obtain ⟨L, hL⟩ : ∃ x, T.len i = x := ⟨_, rfl⟩
  obtain ⟨Nb, hNb⟩ : ∃ x, T.nb i = x := ⟨_, rfl⟩
  obtain ⟨lc, hlcE⟩ : ∃ x, T.lc i = x := ⟨_, rfl⟩
  obtain ⟨al, hal⟩ : ∃ x, AL i = x := ⟨_, rfl⟩
  obtain ⟨cl, hcl⟩ : ∃ x, CL i = x := ⟨_, rfl⟩
  rw [hL] at c0 hLb
  rw [hNb] at c1
  rw [hal, hlcE, hcl] at t2
  rw [hlcE] at hlcb
  have i1 : (0 : Int) ≤ (i : Int) := by omega
  have i2 : (i : Int) < (n : Int) := by omega
  have HE := Lib.hid (And.intro hL (And.intro hNb (And.intro hlcE hal)))
  clear hL hNb hlcE hal hcl c0
  go_enter Tryd.func35, Tryd.ntmps35
  go_wp2_with fail
  clear c1 t2
  go_loopw [7, 23] (fun f c wr => ∃ (F : Int) (k : Nat), f = .int .i64 F ∧ c = .int .i64 (k : Int) ∧ k ≤ lc ∧ Hid (F = T.mx s i k) ∧ Hid (Below w.heap.size w wr)) (fun _ c _ => lc - (intOf c).toNat)
  case atStart => exact ⟨Nb, 0, rfl, rfl, by omega, Lib.hid HE.out.2.1.symm, Lib.hid (Below.refl _ _)⟩
  case round =>
    obtain ⟨F, k, rfl, rfl, hk, HF, HW⟩ := hrel
    obtain ⟨wB, rfl⟩ : ∃ wo : World, wo = wr := ⟨_, rfl⟩
    by_cases hkl : k < lc
    · have HKL := Lib.hid (show k < T.lc i by rw [HE.out.2.2.1]; exact hkl)
      have HRB := Lib.hid (HR.out.call HW.out)
      have hLK := HRB.out.links HIN.out
      rw [HE.out.2.2.1, HE.out.2.2.2] at hLK
      obtain ⟨b, rfl⟩ := hLK.1 (by omega)
      obtain ⟨d0, d1, d2⟩ := hLK.at hkl
      clear hLK
      obtain ⟨q1, -, q3⟩ := Plan.to_lt HOK.out HIN.out HKL.out
      obtain ⟨⟨-, ⟨u3, u4⟩, u5, u6⟩, -⟩ := (HOK.out.task i HIN.out).link k HKL.out
      have hFb := mx_bd2 HOK.out (by rw [HNN.out]; exact HSB.out) HIN.out (Nat.le_of_lt HKL.out)
      rw [← HF.out] at hFb
      have hLZb := (HOK.out.task _ q1).head.1
      have hzb := HSB.out (T.to i k) (by rw [← HNN.out]; exact q1)
      have htl := HTL.out k HKL.out
      have hmx : Plan.mx T s i (k + 1) = max (Plan.mx T s i k) (s (T.to i k) + T.wait i k) := rfl
      have hwE : T.wait i k = if T.lk i k = 1 then T.len (T.to i k) + T.lg i k else if T.lk i k = 2 then T.lg i k else if T.lk i k = 3 then T.len (T.to i k) + T.lg i k - T.len i else T.lg i k - T.len i := rfl
      obtain ⟨⟨z0, -⟩, z1, -⟩ := (HO.out.call HW.out).2 (T.to i k) (by rw [← HNN.out]; exact q1)
      have hBl := (HO.out.call HW.out).1
      rw [q3] at d0
      rw [hwE] at hmx
      obtain ⟨z, hz⟩ : ∃ x, T.to i k = x := ⟨_, rfl⟩
      obtain ⟨kk, hkk⟩ : ∃ x, T.lk i k = x := ⟨_, rfl⟩
      obtain ⟨gg, hgg⟩ : ∃ x, T.lg i k = x := ⟨_, rfl⟩
      rw [hz] at d0 q1 hLZb hzb htl z0 z1
      rw [hkk] at d1 u3 u4
      rw [hgg] at d2 u5 u6
      rw [hz, hkk, hgg, HE.out.1, ← HF.out] at hmx
      rw [HNN.out] at q1
      obtain ⟨ZF, hZF⟩ : ∃ x, s z = x := ⟨_, rfl⟩
      obtain ⟨ZT, hZT⟩ : ∃ x, t z = x := ⟨_, rfl⟩
      obtain ⟨LZ, hLZ⟩ : ∃ x, T.len z = x := ⟨_, rfl⟩
      rw [hZF] at z0 hzb htl hmx
      rw [hZT] at z1 htl
      rw [hLZ] at hLZb htl hmx
      have HMX := Lib.hid hmx
      have HTE := Lib.hid htl
      have hztb : 0 ≤ ZT ∧ ZT ≤ 202000000 := by omega
      have j1 : (0 : Int) ≤ (z : Int) := by omega
      have j2 : (z : Int) < (n : Int) := by omega
      have hbz := HW.out.size
      have HX := Lib.hid ((Tri.new wB (z : Int) kk gg 43).call (Below.alloc (Below.refl _ _) (Nat.le_refl _) (.cells #[.int .i64 ZF, .int .i64 ZT] 38)))
      have hY := Two.new (wB.alloc (.cells #[.int .i64 (z : Int), .int .i64 kk, .int .i64 gg] 43)) ZF ZT 38
      rw [World.size_alloc] at hY
      have HY := Lib.hid hY
      have HW2 := Lib.hid ((HW.out.alloc hbz (.cells #[.int .i64 (z : Int), .int .i64 kk, .int .i64 gg] 43)).alloc (by simp; omega) (.cells #[.int .i64 ZF, .int .i64 ZT] 38))
      have hc0 := (HR.out.call HW2.out).at HIN.out
      obtain ⟨c0, -, -, -⟩ := hc0
      rw [HE.out.1] at c0
      have r1 := cell_regrown c0
      have r2 := cell_regrown HX.out.2.2.2
      have r3 := cell_regrown HY.out.2.1
      have r4 := cell_regrown HY.out.2.2
      clear hY hz hkk hgg hZF hZT hLZ q3 hmx hwE htl HW c0
      have hkc : kk = 1 ∨ kk = 2 ∨ kk = 3 ∨ kk = 4 := by omega
      rcases hkc with rfl | rfl | rfl | rfl
      · go_wp2_with fail
        clear r1 r2 r3 r4
        have HW5 := HW2
        go_roundw
        case rel => exact ⟨_, k + 1, rfl, by go_num, by omega, Lib.hid (by rw [HMX.out]; have := HTE.out; simp; split <;> omega), HW5⟩
        case measure => simp [intOf]; omega
      · go_wp2_with fail
        clear r1 r2 r3 r4
        have HW5 := HW2
        go_roundw
        case rel => exact ⟨_, k + 1, rfl, by go_num, by omega, Lib.hid (by rw [HMX.out]; have := HTE.out; simp; split <;> omega), HW5⟩
        case measure => simp [intOf]; omega
      · go_wp2_with fail
        refine wp_region_below (by kernel_rfl) (by kernel_rfl) ?_
        repeat (go_big_quiet_step (fail))
        refine wpQuiet_nil ?_
        intro w5 hb5
        have HW5 := Lib.hid (thenB HW2.out hb5)
        clear hb5 r1 r2 r3 r4
        go_wp2_with fail
        go_roundw
        case rel => exact ⟨_, k + 1, rfl, by go_num, by omega, Lib.hid (by rw [HMX.out]; have := HTE.out; simp; split <;> omega), HW5⟩
        case measure => simp [intOf]; omega
      · go_wp2_with fail
        refine wp_region_below (by kernel_rfl) (by kernel_rfl) ?_
        repeat (go_big_quiet_step (fail))
        refine wpQuiet_nil ?_
        intro w5 hb5
        have HW5 := Lib.hid (thenB HW2.out hb5)
        clear hb5 r1 r2 r3 r4
        go_wp2_with fail
        go_roundw
        case rel => exact ⟨_, k + 1, rfl, by go_num, by omega, Lib.hid (by rw [HMX.out]; have := HTE.out; simp; split <;> omega), HW5⟩
        case measure => simp [intOf]; omega
    · obtain rfl : lc = k := by omega
      go_wp2_with fail
      go_ret
      exact ⟨by rw [HE.out.2.2.1, ← HF.out]; rfl, HW.out⟩
end Go.Proofs.YthhaopdimilmcaaDoor
