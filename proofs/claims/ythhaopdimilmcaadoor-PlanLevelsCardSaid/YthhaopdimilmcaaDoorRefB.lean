/- The document's PlanCheck. -/
import Derived.Test.YthhaopdimilmcaaDoorRefA
namespace Go.Proofs.YthhaopdimilmcaaDoor
open Go.RowKit
set_option maxRecDepth 100000 in
set_option maxHeartbeats 8000000 in
theorem refCheck_any (oa : Option Addr) (cap : Nat) (AL AU : Nat → Option Addr) (CL CU : Nat → Nat) (T : Plan) (w : World) (hn : T.n ≤ 9223372036854775807) (hlc : ∀ i, i < T.n → T.lc i ≤ 9223372036854775807 ∧ T.uc i ≤ 9223372036854775807) (hR : PlanR w oa AL AU CL CU T) :
    Calls Tryd.prog 22 #[.slice oa T.n cap] w fun e w' => e = .returned (.int .i64 T.chk) ∧ Below w.heap.size w w' := by
  have HR := Lib.hid hR
  have HLC := Lib.hid hlc
  clear hR hlc
  by_cases hbig : 60 < T.n
  · have HCE : Hid (T.chk = 6) := Lib.hid (chk_big hbig)
    obtain ⟨n, hnn⟩ : ∃ x, T.n = x := ⟨_, rfl⟩
    rw [hnn] at hn hbig ⊢
    clear hnn
    have hb : (60 : Int) < (n : Int) := by omega
    go_enter Tryd.func22, Tryd.ntmps22
    go_wp2_with fail
    go_ret
    exact ⟨by rw [HCE.out]; rfl, Below.refl _ _⟩
  · obtain ⟨n, hnn⟩ : ∃ x, T.n = x := ⟨_, rfl⟩
    have HNN := Lib.hid hnn
    rw [hnn] at hn hbig ⊢
    clear hnn
    have hb : ¬ (60 : Int) < (n : Int) := by omega
    go_enter Tryd.func22, Tryd.ntmps22
    go_wp2_with fail
    go_loopw [3] (fun c wr => ∃ i : Nat, c = .int .i64 (i : Int) ∧ i ≤ n ∧ Hid (∀ j, j < i → T.tb j = 0) ∧ Hid (Below w.heap.size w wr)) (fun c _ => n - (intOf c).toNat)
    case atStart => exact ⟨0, rfl, by omega, Lib.hid fun j hj => absurd hj (Nat.not_lt_zero j), Lib.hid (Below.refl _ _)⟩
    case round =>
      obtain ⟨i, rfl, hi, HT, HB⟩ := hrel
      obtain ⟨wA, rfl⟩ : ∃ wo : World, wo = wr := ⟨_, rfl⟩
      by_cases hin : i < n
      · have HIN := Lib.hid (show i < T.n by rw [HNN.out]; exact hin)
        have HRB := Lib.hid (HR.out.call HB.out)
        obtain ⟨a, rfl⟩ := HRB.out.1 (by rw [HNN.out]; omega)
        obtain ⟨c0, c1, c2, c3⟩ := HRB.out.at HIN.out
        have HLK := Lib.hid (HRB.out.links HIN.out)
        have HUS := Lib.hid (HRB.out.ints HIN.out)
        have hbz := HB.out.size
        have hlcb := (HLC.out i HIN.out).1
        have hucb := (HLC.out i HIN.out).2
        obtain ⟨L, hL⟩ : ∃ x, T.len i = x := ⟨_, rfl⟩
        obtain ⟨Nb, hNb⟩ : ∃ x, T.nb i = x := ⟨_, rfl⟩
        obtain ⟨lc, hlcE⟩ : ∃ x, T.lc i = x := ⟨_, rfl⟩
        obtain ⟨uc, hucE⟩ : ∃ x, T.uc i = x := ⟨_, rfl⟩
        obtain ⟨al, hal⟩ : ∃ x, AL i = x := ⟨_, rfl⟩
        obtain ⟨au, hau⟩ : ∃ x, AU i = x := ⟨_, rfl⟩
        obtain ⟨cl, hcl⟩ : ∃ x, CL i = x := ⟨_, rfl⟩
        obtain ⟨cu, hcu⟩ : ∃ x, CU i = x := ⟨_, rfl⟩
        rw [hL] at c0
        rw [hNb] at c1
        rw [hal, hlcE, hcl] at c2
        rw [hau, hucE, hcu] at c3
        rw [hlcE] at hlcb
        rw [hucE] at hucb
        have HE := Lib.hid (And.intro hL (And.intro hNb (And.intro hlcE (And.intro hucE (And.intro hal hau)))))
        clear hL hNb hal hlcE hcl hau hucE hcu
        have HTB := Lib.hid (TaskB.new wA L Nb al lc cl au uc cu 34)
        have HBA := Lib.hid (HB.out.alloc hbz (.cells #[.int .i64 L, .int .i64 Nb, .slice al lc cl, .slice au uc cu] 34))
        by_cases hh : Plan.HeadOk T i
        · have hh2 := hh
          unfold Plan.HeadOk at hh2
          rw [HE.out.1, HE.out.2.1, HE.out.2.2.1, HE.out.2.2.2.1] at hh2
          obtain ⟨⟨g1, g2⟩, ⟨g3, g4⟩, g5, g6⟩ := hh2
          have HH := Lib.hid hh
          clear hh
          have n1 : decide (L < 0) = false := decide_eq_false (by omega)
          have n2 : decide (1000000 < L) = false := decide_eq_false (by omega)
          have n3 : decide (Nb < 0) = false := decide_eq_false (by omega)
          have n4 : decide (1000000 < Nb) = false := decide_eq_false (by omega)
          have n5 : decide ((60 : Int) < (lc : Int)) = false := decide_eq_false (by omega)
          have n6 : decide ((8 : Int) < (uc : Int)) = false := decide_eq_false (by omega)
          go_wp2_with fail
          go_loopw [55] (fun c wr => ∃ k : Nat, c = .int .i64 (k : Int) ∧ k ≤ lc ∧ Hid (∀ j, j < k → T.lb i j = 0) ∧ Hid (TaskB wr wA.heap.size L Nb al lc cl au uc cu) ∧ Hid (Below w.heap.size w wr)) (fun c _ => lc - (intOf c).toNat)
          case atStart => exact ⟨0, rfl, by omega, Lib.hid fun j hj => absurd hj (Nat.not_lt_zero j), HTB, HBA⟩
          case round =>
            obtain ⟨k, rfl, hk, HK, HTB2, HB2⟩ := hrel
            obtain ⟨wB, rfl⟩ : ∃ wo : World, wo = wr := ⟨_, rfl⟩
            by_cases hkl : k < lc
            · have HLK2 := Lib.hid ((HR.out.call HB2.out).links HIN.out)
              have hLK := HLK2.out
              rw [HE.out.2.2.1, HE.out.2.2.2.2.1] at hLK
              obtain ⟨b, rfl⟩ := hLK.1 (by omega)
              obtain ⟨d0, d1, d2⟩ := hLK.at hkl
              clear hLK
              have hbz2 := HB2.out.size
              have hways := lb_ways T i k
              unfold Plan.LinkOk at hways
              rw [HNN.out] at hways
              obtain ⟨tt, htt⟩ : ∃ x, T.lt i k = x := ⟨_, rfl⟩
              obtain ⟨kk, hkk⟩ : ∃ x, T.lk i k = x := ⟨_, rfl⟩
              obtain ⟨gg, hgg⟩ : ∃ x, T.lg i k = x := ⟨_, rfl⟩
              rw [htt] at d0 hways
              rw [hkk] at d1 hways
              rw [hgg] at d2 hways
              clear htt hkk hgg
              have HBC := Lib.hid (HB2.out.alloc hbz2 (.cells #[.int .i64 tt, .int .i64 kk, .int .i64 gg] 43))
              have HTB3 := Lib.hid (HTB2.out.call (Below.alloc (Below.refl _ _) (Nat.le_refl _) (.cells #[.int .i64 tt, .int .i64 kk, .int .i64 gg] 43)))
              rcases hways with ⟨hl0, ⟨⟨q1, q2⟩, ⟨q3, q4⟩, q5, q6⟩, q7⟩ | ⟨hl0, ⟨⟨q1, q2⟩, ⟨q3, q4⟩, q5, q6⟩, q7⟩ | ⟨hl0, hbad⟩
              · have p1 : decide (tt < 0) = false := decide_eq_false (by omega)
                have p2 : decide ((n : Int) ≤ tt) = false := decide_eq_false (by omega)
                have p3 : decide (kk < 1) = false := decide_eq_false (by omega)
                have p4 : decide (4 < kk) = false := decide_eq_false (by omega)
                have p5 : decide (gg < -1000000) = false := decide_eq_false (by omega)
                have p6 : decide (1000000 < gg) = false := decide_eq_false (by omega)
                have p7 : (tt == (i : Int)) = false := by simpa using q7
                have HL0 := Lib.hid hl0
                clear hl0
                go_wp2_with fail
                go_roundw
                case rel =>
                  refine ⟨k + 1, by go_num, by omega, Lib.hid fun j hj => ?_, HTB3, HBC⟩
                  by_cases e : j = k
                  · subst e; exact HL0.out
                  · exact HK.out j (by omega)
                case measure => simp [intOf]; omega
              · have p1 : decide (tt < 0) = false := decide_eq_false (by omega)
                have p2 : decide ((n : Int) ≤ tt) = false := decide_eq_false (by omega)
                have p3 : decide (kk < 1) = false := decide_eq_false (by omega)
                have p4 : decide (4 < kk) = false := decide_eq_false (by omega)
                have p5 : decide (gg < -1000000) = false := decide_eq_false (by omega)
                have p6 : decide (1000000 < gg) = false := decide_eq_false (by omega)
                have HCE : Hid (T.chk = 14) := Lib.hid (by rw [chk_task (by rw [HNN.out]; omega) HT.out HIN.out (by rw [tb_link HH.out HK.out (by rw [HE.out.2.2.1]; exact hkl) (by rw [hl0]; decide), hl0]; decide), tb_link HH.out HK.out (by rw [HE.out.2.2.1]; exact hkl) (by rw [hl0]; decide), hl0])
                subst q7
                clear hl0
                go_wp2_with fail
                go_ret
                exact ⟨by rw [HCE.out]; rfl, HBC.out⟩
              · have HCE : Hid (T.chk = 1) := Lib.hid (by rw [chk_task (by rw [HNN.out]; omega) HT.out HIN.out (by rw [tb_link HH.out HK.out (by rw [HE.out.2.2.1]; exact hkl) (by rw [hl0]; decide), hl0]; decide), tb_link HH.out HK.out (by rw [HE.out.2.2.1]; exact hkl) (by rw [hl0]; decide), hl0])
                clear hl0
                by_cases p1 : tt < 0
                · have p1d : decide (tt < 0) = true := decide_eq_true p1
                  clear hbad
                  go_wp2_with fail
                  go_ret
                  exact ⟨by rw [HCE.out]; rfl, HBC.out⟩
                have p1d : decide (tt < 0) = false := decide_eq_false p1
                by_cases p2 : (n : Int) ≤ tt
                · have p2d : decide ((n : Int) ≤ tt) = true := decide_eq_true p2
                  clear hbad
                  go_wp2_with fail
                  go_ret
                  exact ⟨by rw [HCE.out]; rfl, HBC.out⟩
                have p2d : decide ((n : Int) ≤ tt) = false := decide_eq_false p2
                by_cases p3 : kk < 1
                · have p3d : decide (kk < 1) = true := decide_eq_true p3
                  clear hbad
                  go_wp2_with fail
                  go_ret
                  exact ⟨by rw [HCE.out]; rfl, HBC.out⟩
                have p3d : decide (kk < 1) = false := decide_eq_false p3
                by_cases p4 : 4 < kk
                · have p4d : decide (4 < kk) = true := decide_eq_true p4
                  clear hbad
                  go_wp2_with fail
                  go_ret
                  exact ⟨by rw [HCE.out]; rfl, HBC.out⟩
                have p4d : decide (4 < kk) = false := decide_eq_false p4
                by_cases p5 : gg < -1000000
                · have p5d : decide (gg < -1000000) = true := decide_eq_true p5
                  clear hbad
                  go_wp2_with fail
                  go_ret
                  exact ⟨by rw [HCE.out]; rfl, HBC.out⟩
                have p5d : decide (gg < -1000000) = false := decide_eq_false p5
                have p6 : decide (1000000 < gg) = true := decide_eq_true (by omega)
                clear hbad
                go_wp2_with fail
                go_ret
                exact ⟨by rw [HCE.out]; rfl, HBC.out⟩
            · obtain rfl : lc = k := by omega
              obtain ⟨_, t0, t1, t2, t3⟩ := HTB2.out
              go_wp2_with fail
              clear t0 t1 t2 t3
              go_loopw [97] (fun c wr => ∃ k : Nat, c = .int .i64 (k : Int) ∧ k ≤ uc ∧ Hid (∀ j, j < k → T.ub i j = 0) ∧ Hid (Below w.heap.size w wr)) (fun c _ => uc - (intOf c).toNat)
              case atStart => exact ⟨0, rfl, by omega, Lib.hid fun j hj => absurd hj (Nat.not_lt_zero j), HB2⟩
              case round =>
                obtain ⟨k, rfl, hk, HU, HB3⟩ := hrel
                obtain ⟨wC, rfl⟩ : ∃ wo : World, wo = wr := ⟨_, rfl⟩
                by_cases hku : k < uc
                · have hUS := (HR.out.call HB3.out).ints HIN.out
                  rw [HE.out.2.2.2.1, HE.out.2.2.2.2.2] at hUS
                  obtain ⟨b, rfl⟩ := hUS.1 (by omega)
                  have d0 := hUS.at hku
                  clear hUS
                  by_cases hu : Plan.UseOk T i k
                  · have hu0 : T.ub i k = 0 := if_pos hu
                    have HU0 := Lib.hid hu0
                    unfold Plan.UseOk at hu
                    obtain ⟨uu, huu⟩ : ∃ x, T.us i k = x := ⟨_, rfl⟩
                    rw [huu] at d0 hu
                    obtain ⟨p1, p2⟩ := hu
                    have p3 : decide (uu < 0) = false := decide_eq_false (by omega)
                    have p4 : decide (1000000 < uu) = false := decide_eq_false (by omega)
                    clear huu hu0
                    go_wp2_with fail
                    go_roundw
                    case rel =>
                      refine ⟨k + 1, by go_num, by omega, Lib.hid fun j hj => ?_, HB3⟩
                      by_cases e : j = k
                      · subst e; exact HU0.out
                      · exact HU.out j (by omega)
                    case measure => simp [intOf]; omega
                  · have hu1 : T.ub i k = 1 := if_neg hu
                    have HLL := Lib.hid (show ∀ j, j < T.lc i → T.lb i j = 0 by rw [HE.out.2.2.1]; exact HK.out)
                    have HCE : Hid (T.chk = 1) := Lib.hid (by rw [chk_task (by rw [HNN.out]; omega) HT.out HIN.out (by rw [tb_use HH.out HLL.out HU.out (by rw [HE.out.2.2.2.1]; exact hku) (by rw [hu1]; decide), hu1]; decide), tb_use HH.out HLL.out HU.out (by rw [HE.out.2.2.2.1]; exact hku) (by rw [hu1]; decide), hu1])
                    unfold Plan.UseOk at hu
                    obtain ⟨uu, huu⟩ : ∃ x, T.us i k = x := ⟨_, rfl⟩
                    rw [huu] at d0 hu
                    clear huu hu1
                    by_cases p3 : uu < 0
                    · have p3d : decide (uu < 0) = true := decide_eq_true p3
                      clear hu
                      go_wp2_with fail
                      go_ret
                      exact ⟨by rw [HCE.out]; rfl, HB3.out⟩
                    have p3d : decide (uu < 0) = false := decide_eq_false p3
                    have p4 : decide (1000000 < uu) = true := decide_eq_true (by omega)
                    clear hu
                    go_wp2_with fail
                    go_ret
                    exact ⟨by rw [HCE.out]; rfl, HB3.out⟩
                · obtain rfl : uc = k := by omega
                  go_wp2_with fail
                  go_roundw
                  case rel =>
                    refine ⟨i + 1, by go_num, by omega, Lib.hid fun j hj => ?_, HB3⟩
                    by_cases e : j = i
                    · subst e
                      exact tb_fine HH.out (by rw [HE.out.2.2.1]; exact HK.out) (by rw [HE.out.2.2.2.1]; exact HU.out)
                    · exact HT.out j (by omega)
                  case measure => simp [intOf]; omega
        · have hhE := tb_head hh
          have HCE : Hid (T.chk = 1) := Lib.hid (by rw [chk_task (by rw [HNN.out]; omega) HT.out HIN.out (by rw [hhE]; decide), hhE])
          unfold Plan.HeadOk at hh
          rw [HE.out.1, HE.out.2.1, HE.out.2.2.1, HE.out.2.2.2.1] at hh
          by_cases n1 : L < 0
          · have n1d : decide (L < 0) = true := decide_eq_true n1
            go_wp2_with fail
            go_ret
            exact ⟨by rw [HCE.out]; rfl, HBA.out⟩
          have n1d : decide (L < 0) = false := decide_eq_false n1
          by_cases n2 : 1000000 < L
          · have n2d : decide (1000000 < L) = true := decide_eq_true n2
            go_wp2_with fail
            go_ret
            exact ⟨by rw [HCE.out]; rfl, HBA.out⟩
          have n2d : decide (1000000 < L) = false := decide_eq_false n2
          by_cases n3 : Nb < 0
          · have n3d : decide (Nb < 0) = true := decide_eq_true n3
            go_wp2_with fail
            go_ret
            exact ⟨by rw [HCE.out]; rfl, HBA.out⟩
          have n3d : decide (Nb < 0) = false := decide_eq_false n3
          by_cases n4 : 1000000 < Nb
          · have n4d : decide (1000000 < Nb) = true := decide_eq_true n4
            go_wp2_with fail
            go_ret
            exact ⟨by rw [HCE.out]; rfl, HBA.out⟩
          have n4d : decide (1000000 < Nb) = false := decide_eq_false n4
          by_cases n5 : (60 : Int) < (lc : Int)
          · have n5d : decide ((60 : Int) < (lc : Int)) = true := decide_eq_true n5
            go_wp2_with fail
            go_ret
            exact ⟨by rw [HCE.out]; rfl, HBA.out⟩
          have n5d : decide ((60 : Int) < (lc : Int)) = false := decide_eq_false n5
          have n6 : decide ((8 : Int) < (uc : Int)) = true := decide_eq_true (by omega)
          go_wp2_with fail
          go_ret
          exact ⟨by rw [HCE.out]; rfl, HBA.out⟩
      · obtain rfl : n = i := by omega
        go_wp2_with fail
        have hcall := refOrder_any oa cap AL AU CL CU T n wA HNN.out (by omega) (fun j hj => Plan.tb_ok (HT.out j hj)) (HR.out.call HB.out)
        refine hcall.mono ?_
        clear hcall
        rintro e w2 ⟨hb2, v, out, rfl, hS, hI⟩
        have HB2 := Lib.hid (thenB HB.out hb2)
        have HS := Lib.hid hS
        obtain ⟨ob, c2, rfl, _, _, _⟩ := hI
        obtain ⟨m, hm⟩ : ∃ x, out.length = x := ⟨_, rfl⟩
        have hmn := hS.1.length_le
        rw [hm, HNN.out] at hmn
        rw [hm]
        have HM := Lib.hid hm
        have hT0 : ∀ j, j < T.n → T.tb j = 0 := by rw [HNN.out]; exact HT.out
        by_cases hlt : m < n
        · have HCE : Hid (T.chk = 14) := Lib.hid (by rw [chk_rest (by rw [HNN.out]; omega) hT0, if_neg (HS.out.not_full (by rw [HM.out, HNN.out]; exact hlt))])
          have hd : decide ((m : Int) < (n : Int)) = true := decide_eq_true (by omega)
          clear hb2 hS hm hT0
          go_wp2_with fail
          go_ret
          exact ⟨by rw [HCE.out]; rfl, HB2.out⟩
        · have HCE : Hid (T.chk = 0) := Lib.hid (by rw [chk_rest (by rw [HNN.out]; omega) hT0, if_pos ⟨out, HS.out.1, by rw [HM.out, HNN.out]; omega⟩])
          have hd : decide ((m : Int) < (n : Int)) = false := decide_eq_false (by omega)
          clear hb2 hS hm hT0
          go_wp2_with fail
          go_ret
          exact ⟨by rw [HCE.out]; rfl, HB2.out⟩
end Go.Proofs.YthhaopdimilmcaaDoor
