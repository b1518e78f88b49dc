/- The document's Path. -/
import Derived.Test.YthhaopdimilmcaaDoorRefL
namespace Go.Proofs.YthhaopdimilmcaaDoor
open Go.RowKit
set_option maxRecDepth 100000 in
set_option maxHeartbeats 16000000 in
theorem refPath_any (oa : Option Addr) (cap : Nat) (AL AU : Nat → Option Addr) (CL CU : Nat → Nat) (T : Plan) (n : Nat) (w : World) (hnn : T.n = n) (hn : n ≤ 9223372036854775807) (hlc : ∀ i, i < n → T.lc i ≤ 9223372036854775807 ∧ T.uc i ≤ 9223372036854775807) (hR : PlanR w oa AL AU CL CU T) :
    Calls Tryd.prog 21 #[.slice oa n cap] w fun e w' => ∃ v x, e = .returned (.tuple #[v, .int .i64 x]) ∧ PathV T w.heap.size v x w' ∧ Below w.heap.size w w' := by
  have hearly := refEarly_any oa cap AL AU CL CU T n w hnn hn hlc hR
  have HR := Lib.hid hR
  have HNN := Lib.hid hnn
  clear hR hn hlc hnn
  go_enter Tryd.func21, Tryd.ntmps21
  go_wp2_with fail
  refine hearly.mono ?_
  clear hearly
  rintro e w1 ⟨v, x, rfl, (⟨hc, rfl, rfl⟩ | ⟨hc, rfl, B, s, rfl, hB, hO, hF, hbd⟩), hb1⟩
  · have HB1 := Lib.hid hb1
    have HC := Lib.hid hc
    have hcb : (T.chk != 0) = true := by simpa using hc
    clear hb1 hc
    go_wp2_with fail
    go_ret2
    exact ⟨_, _, rfl, .inl ⟨HC.out, rfl, rfl⟩, HB1.out⟩
  · have HB1 := Lib.hid hb1
    have HC := Lib.hid hc
    have HOK := Lib.hid (Plan.chk_ok hc)
    have HF := Lib.hid hF
    have HD := Lib.hid hbd
    have hn6 : n ≤ 60 := by rw [← HNN.out]; exact HOK.out.size
    rw [HNN.out] at hO ⊢
    have HO := Lib.hid hO
    clear hb1 hc hF hbd hO hB
    by_cases h0 : n = 0
    · subst h0
      go_wp2_with fail
      go_ret2
      exact ⟨_, 0, rfl, .inr ⟨HC.out, rfl, s, HF.out, HD.out, .inl ⟨HNN.out, rfl⟩⟩, HB1.out⟩
    · have hnb : ((n : Int) == 0) = false := by simp; omega
      obtain ⟨o, hTo, hol⟩ := HOK.out.full
      have HTO := Lib.hid (And.intro hTo hol)
      obtain ⟨a, rfl⟩ := HR.out.1 (by rw [HNN.out]; omega)
      clear hTo hol
      go_wp2_with fail
      go_loopw [6, 7] (fun a' c wr => ∃ (A k : Nat), a' = .int .i64 (A : Int) ∧ c = .int .i64 (k : Int) ∧ k ≤ n ∧ Hid (A = Plan.amx T s k) ∧ Hid (Below w1.heap.size w1 wr)) (fun _ c _ => n - (intOf c).toNat)
      case atStart => exact ⟨0, 0, rfl, rfl, by omega, Lib.hid rfl, Lib.hid (Below.refl _ _)⟩
      case round =>
        obtain ⟨A, k, rfl, rfl, hk, HA, HW⟩ := hrel
        obtain ⟨wA, rfl⟩ : ∃ wo : World, wo = wr := ⟨_, rfl⟩
        have ha := Plan.amx_lt (T := T) (s := s) (by rw [HNN.out]; omega) k (by rw [HNN.out]; exact hk)
        rw [HNN.out, ← HA.out] at ha
        have a1 : (0 : Int) ≤ (A : Int) := by omega
        have a2 : (A : Int) < (n : Int) := by omega
        by_cases hkn : k < n
        · have ca := ((HO.out.call HW.out).2 A ha).2.1
          have ck := ((HO.out.call HW.out).2 k hkn).2.1
          have hstep : Plan.amx T s (k + 1) = if s (Plan.amx T s k) + T.len (Plan.amx T s k) < s k + T.len k then k else Plan.amx T s k := rfl
          rw [← HA.out] at hstep
          obtain ⟨TA, hTA⟩ : ∃ x, s A + T.len A = x := ⟨_, rfl⟩
          obtain ⟨TK, hTK⟩ : ∃ x, s k + T.len k = x := ⟨_, rfl⟩
          simp only [hTA] at ca hstep
          simp only [hTK] at ck hstep
          have HST := Lib.hid hstep
          have r3 := cell_regrown ca
          have r4 := cell_regrown ck
          have k1 : (0 : Int) ≤ (k : Int) := by omega
          have k2 : (k : Int) < (n : Int) := by omega
          clear hTA hTK hstep ca ck
          by_cases hlt : TA < TK
          · have hd : decide (TA < TK) = true := decide_eq_true hlt
            go_wp2_with fail
            refine wp_region_below (by kernel_rfl) (by kernel_rfl) ?_
            repeat (go_big_quiet_step (fail))
            refine wpQuiet_nil ?_
            intro w2 hb2
            have HW2 := Lib.hid (thenB HW.out hb2)
            clear hb2 r3 r4
            go_wp2_with fail
            go_roundw
            case rel => exact ⟨k, k + 1, rfl, by go_num, by omega, Lib.hid (by rw [HST.out, if_pos hlt]), HW2⟩
            case measure => simp [intOf]; omega
          · have hd : decide (TA < TK) = false := decide_eq_false hlt
            go_wp2_with fail
            refine wp_region_below (by kernel_rfl) (by kernel_rfl) ?_
            repeat (go_big_quiet_step (fail))
            refine wpQuiet_nil ?_
            intro w2 hb2
            have HW2 := Lib.hid (thenB HW.out hb2)
            clear hb2 r3 r4
            go_wp2_with fail
            go_roundw
            case rel => exact ⟨A, k + 1, rfl, by go_num, by omega, Lib.hid (by rw [HST.out, if_neg (show ¬ TA < TK by omega)]), HW2⟩
            case measure => simp [intOf]; omega
        · obtain rfl : n = k := by omega
          have HBA := Lib.hid (thenB HB1.out HW.out)
          have HOA := Lib.hid (HO.out.call HW.out)
          have hpo : Plan.pos o A + 1 ≤ n := by
            have h1 := HTO.out.1.full HTO.out.2 (show A < T.n by rw [HNN.out]; exact ha)
            have h2 := Plan.pos_lt h1
            rw [HTO.out.2, HNN.out] at h2
            omega
          have HCH := Lib.hid (show Plan.Chain T s [A] ∧ [A].getD 0 0 = Plan.amx T s T.n ∧ [A].getD (1 - 1) 0 = A ∧ Plan.pos o A + 1 ≤ n from ⟨Plan.Chain.start s (by rw [HNN.out]; exact ha), by rw [HNN.out]; exact HA.out, rfl, hpo⟩)
          have hazA := HBA.out.size
          have HIL := Lib.hid (show IntsL (wA.alloc (.cells #[.int .i64 (A : Int)] 3)) w.heap.size (.slice (some ⟨wA.heap.size, 0, none⟩) 1 1) [A].reverse from (IntsL.own (l := [A]) (own_one wA (.int .i64 (A : Int)) 3)).low hazA)
          have HBL := Lib.hid (HBA.out.alloc hazA (.cells #[.int .i64 (A : Int)] 3))
          have HOL := Lib.hid (HOA.out.alloc (.cells #[.int .i64 (A : Int)] 3))
          obtain ⟨i0, hi0, hz0, hz1', hz2⟩ := info_parts int_info
          clear hpo HW HBA HOA ha a1 a2
          go_wp2_with fail
          go_loopw [6, 8] (fun a' v wr => ∃ (A : Nat) (ob : Option Addr) (m c2 : Nat) (out : List Nat), a' = .int .i64 (A : Int) ∧ v = .slice ob m c2 ∧ 0 < m ∧ m ≤ n ∧ Hid (out.length = m) ∧ Hid (Plan.Chain T s out ∧ out.getD 0 0 = Plan.amx T s T.n ∧ out.getD (m - 1) 0 = A ∧ Plan.pos o A + m ≤ n) ∧ Hid (IntsL wr w.heap.size (.slice ob m c2) out.reverse) ∧ Hid (OwnS wr B n s (fun i => s i + T.len i)) ∧ Hid (Below w.heap.size w wr)) (fun _ v _ => n - slen v)
          case atStart => exact ⟨A, _, 1, 1, [A], rfl, rfl, by omega, by omega, Lib.hid rfl, HCH, HIL, HOL, HBL⟩
          case round =>
            clear HCH HIL HOL HBL HA hazA
            obtain ⟨A, ob, m, c2, out, rfl, rfl, hm0, hm, HM, HCH, HIL, HOL, HBL⟩ := hrel
            obtain ⟨wB, rfl⟩ : ∃ wo : World, wo = wr := ⟨_, rfl⟩
            have hA := HCH.out.1.lt (j := m - 1) (by rw [HM.out]; omega)
            rw [HCH.out.2.2.1] at hA
            have HAT := Lib.hid hA
            have ha : A < n := by rw [← HNN.out]; exact hA
            have a1 : (0 : Int) ≤ (A : Int) := by omega
            have a2 : (A : Int) < (n : Int) := by omega
            obtain ⟨-, c1, t2, -⟩ := (HR.out.call HBL.out).at HAT.out
            obtain ⟨⟨s0, -⟩, s1, -⟩ := HOL.out.2 A ha
            have hlcb := (HOK.out.task A HAT.out).head.2.2.1
            have hLb := (HOK.out.task A HAT.out).head.1
            have hSb := HD.out A HAT.out
            have hpm := HCH.out.2.2.2
            obtain ⟨Nb, hNb⟩ : ∃ x, T.nb A = x := ⟨_, rfl⟩
            obtain ⟨lc, hlcE⟩ : ∃ x, T.lc A = x := ⟨_, rfl⟩
            obtain ⟨al, hal⟩ : ∃ x, AL A = x := ⟨_, rfl⟩
            obtain ⟨cl, hcl⟩ : ∃ x, CL A = x := ⟨_, rfl⟩
            obtain ⟨SA, hSA⟩ : ∃ x, s A = x := ⟨_, rfl⟩
            obtain ⟨TA, hTA⟩ : ∃ x, s A + T.len A = x := ⟨_, rfl⟩
            rw [hNb] at c1
            rw [hal, hlcE, hcl] at t2
            rw [hlcE] at hlcb
            simp only [hTA] at s1
            have hTb : 0 ≤ TA ∧ TA ≤ 123000000 := by rw [← hTA]; omega
            rw [hSA] at s0 hSb
            have HE := Lib.hid (And.intro hNb (And.intro hlcE (And.intro hal (And.intro hcl (And.intro hSA hTA)))))
            have r1 := cell_regrown s0
            have r2 := cell_regrown c1
            clear hA hNb hlcE hal hcl hSA hTA s0 s1 c1 t2 hLb
            by_cases hend : SA = Nb
            · subst hend
              go_wp2_with fail
              refine wp_region_below (by kernel_rfl) (by kernel_rfl) ?_
              repeat (go_big_quiet_step (fail))
              refine wpQuiet_nil ?_
              intro w2 hb2
              have HI2 := Lib.hid (HIL.out.call hb2)
              have HB2 := Lib.hid (thenB HBL.out hb2)
              clear hb2 r1 r2
              go_wp2_with fail
              go_ret2
              refine ⟨_, 0, rfl, .inr ⟨HC.out, rfl, s, HF.out, HD.out, .inr ⟨by rw [HNN.out]; omega, out, ⟨HCH.out.1, HCH.out.2.1, ?_⟩, HI2.out⟩⟩, HB2.out⟩
              rw [HM.out, HCH.out.2.2.1, HE.out.1, HE.out.2.2.2.2.1]
            · have hd : (SA != Nb) = true := by simpa using hend
              have HNE := Lib.hid (show s A ≠ T.nb A by rw [HE.out.1, HE.out.2.2.2.2.1]; exact hend)
              clear hend
              go_wp2_with fail
              refine wp_region_below (by kernel_rfl) (by kernel_rfl) ?_
              repeat (go_big_quiet_step (fail))
              refine wpQuiet_nil ?_
              intro w2 hb2
              have HI2 := Lib.hid (HIL.out.call hb2)
              have HB2 := Lib.hid (thenB HBL.out hb2)
              have HO2 := Lib.hid (HOL.out.call hb2)
              obtain ⟨-, -, t2, -⟩ := (HR.out.call HB2.out).at HAT.out
              rw [HE.out.2.1, HE.out.2.2.1, HE.out.2.2.2.1] at t2
              clear hb2 r1 r2 hd
              go_wp2_with fail
              clear t2
              go_loopw [6, 62] (fun a' c wr => ∃ k : Nat, a' = .int .i64 (A : Int) ∧ c = .int .i64 (k : Int) ∧ k ≤ lc ∧ Hid (∀ j, j < k → s (T.to A j) + T.wait A j ≠ s A) ∧ Hid (Below w2.heap.size w2 wr)) (fun _ c _ => lc - (intOf c).toNat)
              case atStart => exact ⟨0, rfl, rfl, by omega, Lib.hid fun j hj => absurd hj (Nat.not_lt_zero j), Lib.hid (Below.refl _ _)⟩
              case round =>
                obtain ⟨k, rfl, rfl, hk, HNO, HC3⟩ := hrel
                obtain ⟨wC, rfl⟩ : ∃ wo : World, wo = wr := ⟨_, rfl⟩
                by_cases hkl : k < lc
                · have HKL := Lib.hid (show k < T.lc A by rw [HE.out.2.1]; exact hkl)
                  have HRC := Lib.hid (HR.out.call (thenB HB2.out HC3.out))
                  have hLK := HRC.out.links HAT.out
                  rw [HE.out.2.1, HE.out.2.2.1] at hLK
                  obtain ⟨b, hb⟩ := hLK.1 (by omega)
                  subst hb
                  obtain ⟨d0, d1, d2⟩ := hLK.at hkl
                  clear hLK
                  obtain ⟨q1, hzi, q3⟩ := Plan.to_lt HOK.out HAT.out HKL.out
                  obtain ⟨⟨-, hkkb, hggb⟩, -⟩ := (HOK.out.task A HAT.out).link k HKL.out
                  have hfe := (HF.out.feas A HAT.out).2 k HKL.out
                  have hZb := HD.out _ q1
                  have hLZb := (HOK.out.task _ q1).head.1
                  obtain ⟨⟨o0, -⟩, o1, -⟩ := (HO2.out.call HC3.out).2 A ha
                  obtain ⟨⟨z0, -⟩, z1, -⟩ := (HO2.out.call HC3.out).2 (T.to A k) (by rw [← HNN.out]; exact q1)
                  have hOw := Lib.hid (HO2.out.call HC3.out)
                  rw [HE.out.2.2.2.2.1] at o0
                  simp only [HE.out.2.2.2.2.2] at o1
                  have hhd : holdsB T A k (Plan.upd s A (s A - 1)) = decide (s (T.to A k) + T.wait A k ≤ SA - 1) := by unfold holdsB; rw [Plan.upd_at, Plan.upd_ne _ _ hzi, HE.out.2.2.2.2.1]
                  have hholds := fun (z' : Int) (w' : World) (ZF ZT : Int) (h3 : s (T.to A k) = ZF) (h4 : s (T.to A k) + T.len (T.to A k) = ZT) hb1 hb2 => refHolds_any T A k (Plan.upd s A (s A - 1)) z' _ _ (SA - 1) (TA - 1) ZF ZT w' hkkb rfl rfl hggb (by rw [Plan.upd_at, HE.out.2.2.2.2.1]) (by rw [Plan.upd_at]; have := HE.out.2.2.2.2.2; omega) (by rw [Plan.upd_ne _ _ hzi]; exact h3) (by rw [Plan.upd_ne _ _ hzi]; exact h4) hb1 hb2
                  rw [q3] at d0
                  obtain ⟨ZF, hZF⟩ : ∃ x, s (T.to A k) = x := ⟨_, rfl⟩
                  obtain ⟨ZT, hZT⟩ : ∃ x, s (T.to A k) + T.len (T.to A k) = x := ⟨_, rfl⟩
                  simp only [hZT] at z1
                  have hZTb : -4000000000000 ≤ ZT ∧ ZT ≤ 4000000000000 := by rw [← hZT]; omega
                  rw [hZF] at z0 hZb hhd hfe
                  have hZFb : -4000000000000 ≤ ZF ∧ ZF ≤ 4000000000000 := by omega
                  have hhc := fun (z' : Int) (w' : World) => hholds z' w' ZF ZT hZF hZT hZFb hZTb
                  obtain ⟨z, hz⟩ : ∃ x, T.to A k = x := ⟨_, rfl⟩
                  obtain ⟨kk, hkk⟩ : ∃ x, T.lk A k = x := ⟨_, rfl⟩
                  obtain ⟨gg, hgg⟩ : ∃ x, T.lg A k = x := ⟨_, rfl⟩
                  rw [hz] at d0 q1 z0 z1
                  rw [hkk] at d1 hkkb
                  rw [hgg] at d2 hggb
                  rw [hkk, hgg] at hhc
                  rw [HNN.out] at q1
                  rw [HE.out.2.2.2.2.1] at hfe
                  have HHC := Lib.hid hhc
                  have HWT := Lib.hid (And.intro hz (And.intro hZF (And.intro hZT hfe)))
                  have HQ1 := Lib.hid q1
                  have j1 : (0 : Int) ≤ (z : Int) := by omega
                  have j2 : (z : Int) < (n : Int) := by omega
                  have hBl := HO2.out.1
                  have hcz := HC3.out.size
                  have HX := Lib.hid (Tri.new wC (z : Int) kk gg 43)
                  have HCA := Lib.hid (HC3.out.alloc hcz (.cells #[.int .i64 (z : Int), .int .i64 kk, .int .i64 gg] 43))
                  have r1 := cell_regrown ((World.cell?_alloc_lt wC (.cells #[.int .i64 (z : Int), .int .i64 kk, .int .i64 gg] 43) ⟨B, A * 2, none⟩ (hOw.out.1)).trans o0)
                  have r2 := cell_regrown ((World.cell?_alloc_lt wC (.cells #[.int .i64 (z : Int), .int .i64 kk, .int .i64 gg] 43) ⟨B, A * 2 + 1, none⟩ (hOw.out.1)).trans o1)
                  have e1 := (World.cell?_alloc_lt wC (.cells #[.int .i64 (z : Int), .int .i64 kk, .int .i64 gg] 43) ⟨B, A * 2, none⟩ (hOw.out.1)).trans o0
                  have e2 := (World.cell?_alloc_lt wC (.cells #[.int .i64 (z : Int), .int .i64 kk, .int .i64 gg] 43) ⟨B, A * 2 + 1, none⟩ (hOw.out.1)).trans o1
                  have hOz := hOw.out.1
                  clear hholds hhc hZF hZT hz hkk hgg q3 hzi o0 o1 z0 z1 hfe
                  go_wp2_with fail
                  go_region
                  have hcz2 : w2.heap.size ≤ (wC.alloc (.cells #[.int .i64 (z : Int), .int .i64 kk, .int .i64 gg] 43)).heap.size := by simp; omega
                  have HBW := Lib.hid (below_drew (HCA.out.alloc hcz2 (.cells #[.int .i64 (SA - 1), .int .i64 (TA - 1)] 38)))
                  have HXW := Lib.hid (show Tri ((wC.alloc (.cells #[.int .i64 (z : Int), .int .i64 kk, .int .i64 gg] 43)).alloc (.cells #[.int .i64 (SA - 1), .int .i64 (TA - 1)] 38)).drew wC.heap.size (z : Int) kk gg from HX.out.call (below_drew (Below.alloc (Below.refl _ _) (Nat.le_refl _) (.cells #[.int .i64 (SA - 1), .int .i64 (TA - 1)] 38))))
                  have hY := Two.new (wC.alloc (.cells #[.int .i64 (z : Int), .int .i64 kk, .int .i64 gg] 43)) (SA - 1) (TA - 1) 38
                  rw [World.size_alloc] at hY
                  have HYW := Lib.hid (show Two ((wC.alloc (.cells #[.int .i64 (z : Int), .int .i64 kk, .int .i64 gg] 43)).alloc (.cells #[.int .i64 (SA - 1), .int .i64 (TA - 1)] 38)).drew (wC.heap.size + 1) (SA - 1) (TA - 1) from hY)
                  have HOW := Lib.hid (show OwnS ((wC.alloc (.cells #[.int .i64 (z : Int), .int .i64 kk, .int .i64 gg] 43)).alloc (.cells #[.int .i64 (SA - 1), .int .i64 (TA - 1)] 38)).drew B n s (fun i => s i + T.len i) from (hOw.out.alloc _).alloc _)
                  obtain ⟨W4, hW4⟩ : ∃ x, ((wC.alloc (.cells #[.int .i64 (z : Int), .int .i64 kk, .int .i64 gg] 43)).alloc (.cells #[.int .i64 (SA - 1), .int .i64 (TA - 1)] 38)).drew = x := ⟨_, rfl⟩
                  rw [hW4] at HBW HXW HYW HOW ⊢
                  clear hY hW4 e1 e2 r1 r2
                  obtain ⟨⟨z0, -⟩, z1, -⟩ := HOW.out.2 z HQ1.out
                  obtain ⟨-, b0, b1, b2⟩ := HXW.out
                  obtain ⟨-, y0, y1⟩ := HYW.out
                  have hsz : s z = ZF := by rw [← HWT.out.1]; exact HWT.out.2.1
                  have hszt : s z + T.len z = ZT := by rw [← HWT.out.1]; exact HWT.out.2.2.1
                  rw [hsz] at z0
                  simp only [hszt] at z1
                  have r1 := cell_regrown z0
                  have r2 := cell_regrown z1
                  have r3 := cell_regrown b0
                  have r4 := cell_regrown b1
                  have r5 := cell_regrown b2
                  have r6 := cell_regrown y0
                  have r7 := cell_regrown y1
                  clear z0 z1 b0 b1 b2 y0 y1 hsz hszt hOz
                  obtain ⟨WT, hWTE⟩ : ∃ x, T.wait A k = x := ⟨_, rfl⟩
                  have hfe := HWT.out.2.2.2
                  rw [hWTE] at hhd hfe
                  have HWTE := Lib.hid hWTE
                  clear hWTE
                  by_cases htg : ZF + WT = SA
                  · rw [decide_eq_false (show ¬ ZF + WT ≤ SA - 1 by omega)] at hhd
                    have HTG := Lib.hid htg
                    clear htg hfe
                    go_wp2_with fail
                    refine wp_region_below (by kernel_rfl) (by kernel_rfl) ?_
                    repeat (go_big_quiet_step ((go_at_call 36; exact Calls.regrown_of (by with_reducible exact HHC.out (z : Int) _))))
                    refine wpQuiet_nil ?_
                    intro w5 hb5
                    rw [hhd]
                    have HB5 := Lib.hid (HBW.out.trans (hb5.mono HBW.out.size))
                    have HX5 := Lib.hid (HXW.out.call hb5)
                    have HI5 := Lib.hid (HI2.out.call HB5.out)
                    have HO5 := Lib.hid (HO2.out.call HB5.out)
                    have HBB5 := Lib.hid (thenB HB2.out HB5.out)
                    have x0 := HX5.out.2.1
                    obtain ⟨oa', cap', hv1, hv2, hv3, hv4⟩ := HI5.out
                    simp only [Value.slice.injEq] at hv1
                    obtain ⟨rfl, -, rfl⟩ := hv1
                    obtain ⟨g, rfl, -, hgO⟩ := hv4 (by rw [List.length_reverse, HM.out]; exact hm0)
                    have HGO := Lib.hid hgO
                    have hbz5 := HBB5.out.size
                    have hpz := Plan.Topo.pos HTO.out.1 (HTO.out.1.full HTO.out.2 HAT.out) HKL.out
                    rw [HWT.out.1] at hpz
                    clear hb5 r1 r2 r3 r4 r5 r6 r7 hv2 hv3 hv4 hgO hhd
                    have HNEWS := Lib.hid (show ∀ j u, (ntV out.reverse)[j]? = some u → (w5.alloc (.cells #[.int .i64 (z : Int)] 3)).cell? ((⟨g, 0, none⟩ : Addr).add j) = some u from fun j u hu => by
                      have hj : j < out.reverse.length := by rw [← ntV_len]; exact (List.getElem?_eq_some_iff.1 hu).1
                      rw [ntV_at _ _ hj] at hu
                      injection hu with hu
                      subst hu
                      rw [Addr.add_lit, Nat.zero_add]
                      exact (World.cell?_alloc_lt w5 _ ⟨g, j, none⟩ HGO.out.1).trans (HGO.out.2 j hj).1)
                    have HONE := Lib.hid (show ∀ u, u ∈ ntV out.reverse → u.oneCell' = true from fun u hu => by
                      unfold ntV at hu
                      obtain ⟨x, _, rfl⟩ := List.mem_map.1 hu
                      rfl)
                    have HLEN := Lib.hid (show (ntV out.reverse).length = m * 1 by rw [ntV_len, List.length_reverse, HM.out]; omega)
                    go_wp2_with (at_builtin; refine wpList_append_own _ rfl (.tmp 92) (.tmp 93) 23 rfl w5.heap.size 3 i0 (.int .i64 0) 1 8 Tryd.underlying23 hi0 hz0 hz1' hz2 rfl (by decide) _ 1 [.int .i64 (z : Int)] rfl (own_one w5 _ _) _ m c2 (ntV out.reverse) rfl HLEN.out HNEWS.out HONE.out (by unfold maxLen; omega) (by omega) (by simp) ?_; intro v8 w8 hown hgrow _)
                    obtain ⟨g8, c8, hv8, _, _⟩ := hown.form (by omega)
                    subst hv8
                    have hbl := (Below.alloc (Below.refl w5.heap.size w5) (Nat.le_refl _) (.cells #[.int .i64 (z : Int)] 3)).grown hgrow (by simp) (fun k hk => Nat.le_of_eq (Option.some.inj hk))
                    have hl8 : (out ++ [z]).length = 1 + m := by rw [List.length_append, HM.out]; simp; omega
                    have hrev : (out ++ [z]).reverse = z :: out.reverse := by simp
                    have hlast : (out ++ [z]).getD (1 + m - 1) 0 = z := by
                      have e : 1 + m - 1 = out.length := by rw [HM.out]; omega
                      rw [e]; simp [List.getD]
                    have hfst : (out ++ [z]).getD 0 0 = out.getD 0 0 := by
                      have e : 0 < out.length := by rw [HM.out]; exact hm0
                      unfold List.getD
                      rw [List.getElem?_append_left e]
                    have HI8 := Lib.hid (show IntsL w8 w.heap.size (.slice (some ⟨g8, 0, none⟩) (1 + m) c8) (out ++ [z]).reverse from by
                      rw [hrev]
                      refine (IntsL.own (b := w5.heap.size) ?_).low hbz5
                      have e : (z :: out.reverse).length = 1 + m := by rw [List.length_cons, List.length_reverse, HM.out]; omega
                      rw [e]
                      exact hown)
                    have HCH8 := Lib.hid (show Plan.Chain T s (out ++ [z]) ∧ (out ++ [z]).getD 0 0 = Plan.amx T s T.n ∧ (out ++ [z]).getD (1 + m - 1) 0 = z ∧ Plan.pos o z + (1 + m) ≤ n from
                      ⟨HCH.out.1.snoc (by rw [HNN.out]; exact HQ1.out) (by
                        rw [HM.out, HCH.out.2.2.1]
                        exact ⟨HNE.out, k, HKL.out, HWT.out.1, by rw [HWTE.out, ← HWT.out.1, HWT.out.2.1, HE.out.2.2.2.2.1]; exact HTG.out, HNO.out⟩), hfst.trans HCH.out.2.1, hlast, by omega⟩)
                    have HO8 := Lib.hid (HO5.out.call hbl)
                    have HB8 := Lib.hid (thenB HBB5.out hbl)
                    clear hown hgrow hbl
                    try go_wp2_with fail
                    go_roundw
                    case rel => exact ⟨z, _, 1 + m, c8, out ++ [z], rfl, rfl, by omega, by omega, Lib.hid hl8, HCH8, HI8, HO8, HB8⟩
                    case measure => simp [slen]; omega
                  · rw [decide_eq_true (show ZF + WT ≤ SA - 1 by omega)] at hhd
                    have HTG := Lib.hid htg
                    clear htg hfe
                    go_wp2_with fail
                    refine wp_region_below (by kernel_rfl) (by kernel_rfl) ?_
                    repeat (go_big_quiet_step ((go_at_call 36; exact Calls.regrown_of (by with_reducible exact HHC.out (z : Int) _))))
                    refine wpQuiet_nil ?_
                    intro w5 hb5
                    rw [hhd]
                    have HB5 := Lib.hid (HBW.out.trans (hb5.mono HBW.out.size))
                    clear hb5 r1 r2 r3 r4 r5 r6 r7 hhd
                    go_wp2_with fail
                    go_roundw
                    case rel =>
                      refine ⟨k + 1, rfl, by go_num, by omega, Lib.hid fun j hj => ?_, HB5⟩
                      by_cases e : j = k
                      · subst e; rw [HWTE.out, HWT.out.2.1, HE.out.2.2.2.2.1]; exact HTG.out
                      · exact HNO.out j (by omega)
                    case measure => simp [intOf]; omega
                · obtain rfl : lc = k := by omega
                  obtain ⟨j, h1, h2⟩ := HF.out.tight HAT.out HNE.out
                  rw [HE.out.2.1] at h1
                  exact absurd h2 (HNO.out j h1)
end Go.Proofs.YthhaopdimilmcaaDoor
