/- Whether there is enough for a task: the program's fits. -/
import Derived.Test.YthhaopdimilmcaaDoorLevC
namespace Go.Proofs.YthhaopdimilmcaaDoor
open Go.RowKit
set_option maxRecDepth 100000 in
set_option maxHeartbeats 8000000 in
theorem fits_any (K : Nat) (oa : Option Addr) (n cap : Nat) (AL AU : Nat → Option Addr) (CL CU : Nat → Nat) (T : Plan) (oh : Option Addr) (hn hc B I : Nat) (hv f t : Nat → Int) (z : Nat → Bool) (i : Nat) (x : Int) (w : World) (hnn : T.n = n) (hn6 : n ≤ 60) (hh6 : hn ≤ 1000000) (hi : i < n)
    (hU : ∀ j r, 0 ≤ T.use j r ∧ T.use j r ≤ 1000000) (hx : 0 ≤ x ∧ x ≤ 4000000000) (hLn : 0 ≤ T.len i ∧ T.len i ≤ 1000000)
    (hR : PlanR w oa AL AU CL CU T) (hH : IntsR w oh hn hv) (hK : LevB w K oa n cap oh hn hc B I) (hO : OwnS w B n f t) (hI : OwnI w I n (inZ z)) :
    Calls Tryd.prog 58 #[.pointer (some ⟨K, 0, none⟩), .int .i64 (i : Int), .int .i64 x] w fun e w' => ∃ b : Bool, e = .returned (.bool b) ∧ (b = true ↔ FitP T f t z n hn hv i x) ∧ Below w.heap.size w w' := by
  obtain ⟨aa, rfl⟩ := hR.1 (by omega)
  have HR := Lib.hid hR
  have HH := Lib.hid hH
  have HK := Lib.hid hK
  have HO := Lib.hid hO
  have HI := Lib.hid hI
  have HU := Lib.hid hU
  have HNN := Lib.hid hnn
  obtain ⟨c0, -, -, -⟩ := hR.at (show i < T.n by rw [hnn]; exact hi)
  obtain ⟨kz, k0, k1, k2, k3⟩ := hK
  have hab := World.block_lt_of_cell? _ _ c0
  obtain ⟨L, hL⟩ : ∃ y, T.len i = y := ⟨_, rfl⟩
  rw [hL] at c0 hLn
  have HL := Lib.hid hL
  have i1 : (0 : Int) ≤ (i : Int) := by omega
  have i2 : (i : Int) < (n : Int) := by omega
  clear hR hH hO hI hU hnn hL
  obtain ⟨i0, hi0, hz0, hz1, hz2⟩ := info_parts int_info
  go_enter Tryd.func58, Tryd.ntmps58
  go_wp2_with fail
  clear c0 k0 k1 k2 k3 kz hab
  obtain ⟨Y, hY⟩ : ∃ y, x + L = y := ⟨_, rfl⟩
  try rw [hY]
  have HY := Lib.hid hY
  clear hY
  go_loopw [32] (fun c wr => ∃ r : Nat, c = .int .i64 (r : Int) ∧ r ≤ hn ∧ Hid (∀ r', r' < r → FitR T f t z n hv i x r') ∧ Hid (Below w.heap.size w wr)) (fun c _ => hn - (intOf c).toNat)
  case atStart => exact ⟨0, rfl, by omega, Lib.hid fun r hr => absurd hr (Nat.not_lt_zero r), Lib.hid (Below.refl _ _)⟩
  case round =>
    obtain ⟨r, rfl, hr, HF, HW⟩ := hrel
    obtain ⟨wA, rfl⟩ : ∃ wo : World, wo = wr := ⟨_, rfl⟩
    by_cases hrn : r < hn
    · obtain ⟨kz, k0, k1, k2, k3⟩ := HK.out.call HW.out
      have HRA := Lib.hid (HR.out.call HW.out)
      obtain ⟨Lx, Nb, al, lc, cl, au, uc, cu, c0, c1, c2, c3, huse⟩ := use_at HRA.out (show i < T.n by rw [HNN.out]; exact hi)
      have hab := World.block_lt_of_cell? _ _ c0
      have hub := HU.out i r
      have hus := huse r wA (Below.refl _ _)
      obtain ⟨U, hUE⟩ : ∃ y, T.use i r = y := ⟨_, rfl⟩
      rw [hUE] at hus hub
      have HUE := Lib.hid hUE
      clear hUE huse
      go_wp2_with fail
      refine hus.mono ?_
      clear hus
      rintro e w1 ⟨rfl, hb1⟩
      have HW1 := Lib.hid (thenB HW.out hb1)
      clear hb1
      by_cases hU0 : U = 0
      · have d1 : (U == 0) = true := by simpa using hU0
        go_wp2_with fail
        go_roundw
        case rel => 
          refine ⟨r + 1, by go_num, by omega, Lib.hid fun r' hr' => ?_, HW1⟩
          by_cases e : r' = r
          · subst e; intro h0; exact absurd (HUE.out.trans hU0) h0
          · exact HF.out r' (by omega)
        case measure => simp [intOf]; omega
      · have d1 : (U == 0) = false := by simpa using hU0
        by_cases hL0 : L = 0
        · have d2 : (x == Y) = true := by have := HY.out; simp; omega
          have HL0 := Lib.hid hL0
          clear hL0
          go_wp2_with fail
          go_roundw
          case rel => 
            refine ⟨r + 1, by go_num, by omega, Lib.hid fun r' hr' => ?_, HW1⟩
            by_cases e : r' = r
            · subst e; intro _ h0; exact absurd (HL.out.trans HL0.out) h0
            · exact HF.out r' (by omega)
          case measure => simp [intOf]; omega
        · have d2 : (x == Y) = false := by have := HY.out; simp; omega
          have HU0 := Lib.hid hU0
          have HL0 := Lib.hid hL0
          clear hU0 hL0
          have HA0 := Lib.hid (AtSt.start w w1 HW1.out x)
          have HB0 := Lib.hid HW1.out.size
          obtain ⟨q2, q3⟩ : w1.cell? ⟨K, 2, none⟩ = some (.slice (some ⟨B, 0, none⟩) n n) ∧ K < w1.heap.size := ⟨(HK.out.call HW1.out).2.2.2.1, (HK.out.call HW1.out).1⟩
          clear kz k0 k1 k2 k3 c0 c1 c2 c3 hab
          go_wp2_with fail
          clear q2 q3
          go_loopw [9, 57] (fun v c wr => ∃ (ob : Option Addr) (m c2 j : Nat), v = .slice ob m c2 ∧ c = .int .i64 (j : Int) ∧ j ≤ n ∧ m ≤ j + 1 ∧ Hid (m = (atL f z x Y j).length ∧ AtSt w w1.heap.size (.slice ob m c2) (atL f z x Y j) wr)) (fun _ c _ => n - (intOf c).toNat)
          case atStart => exact ⟨_, 1, 1, 0, rfl, rfl, by omega, by omega, Lib.hid ⟨rfl, HA0.out⟩⟩
          case round =>
            clear HA0
            obtain ⟨ob, m, c2, j, rfl, rfl, hj, hm, HA⟩ := hrel
            obtain ⟨wB, rfl⟩ : ∃ wo : World, wo = wr := ⟨_, rfl⟩
            by_cases hjn : j < n
            · have HWB := Lib.hid HA.out.2.2.2.2
              obtain ⟨-, -, -, -, k3⟩ := HK.out.call HWB.out
              obtain ⟨⟨s0, -⟩, s1, -⟩ := (HO.out.call HWB.out).2 j hjn
              have ci := ((HI.out.call HWB.out).2 j hjn).1
              have hib := (HI.out.call HWB.out).1
              have hKb := (HK.out.call HWB.out).1
              have hstep : atL f z x Y (j + 1) = if z j = true ∧ x < f j ∧ f j < Y then atL f z x Y j ++ [f j] else atL f z x Y j := rfl
              obtain ⟨F, hF⟩ : ∃ y, f j = y := ⟨_, rfl⟩
              obtain ⟨TK, hTK⟩ : ∃ y, t j = y := ⟨_, rfl⟩
              rw [hF] at s0 hstep
              rw [hTK] at s1
              have HST := Lib.hid hstep
              have j1 : (0 : Int) ≤ (j : Int) := by omega
              have j2 : (j : Int) < (n : Int) := by omega
              have HA1 := Lib.hid (HA.out.2.alloc (.cells #[.int .i64 F, .int .i64 TK] 38))
              clear hF hTK hstep
              by_cases hz : z j = true
              · have e1 : inZ z j = 1 := if_pos hz
                rw [e1] at ci
                have HZ := Lib.hid hz
                clear hz e1
                by_cases hx1 : x < F
                · have d3 : decide (x < F) = true := decide_eq_true hx1
                  have HX1 := Lib.hid hx1
                  clear hx1
                  by_cases hx2 : F < Y
                  · have d4 : decide (F < Y) = true := decide_eq_true hx2
                    have HST2 := Lib.hid (show atL f z x Y (j + 1) = atL f z x Y j ++ [F] from by rw [HST.out, if_pos ⟨HZ.out, HX1.out, hx2⟩])
                    clear hx2
                    go_wp2_with (at_builtin; refine wpList_append_own _ rfl (.tmp 82) (.tmp 85) 23 rfl w1.heap.size 3 i0 (.int .i64 0) 1 8 Tryd.underlying23 hi0 hz0 hz1 hz2 rfl (by decide) _ m (itV (atL f z x Y j)) rfl (by have h9 := HA1.out.2.2.1; rw [← HA.out.1] at h9; exact h9.alloc _) _ 1 1 [.int .i64 F] rfl rfl (cells_at (by simp) _ _) (by simp [Value.oneCell']) (by unfold maxLen; omega) (by omega) (by have := HA1.out.1; simp at this ⊢; omega) ?_; intro v3 w3 hown hgrow _)
                    obtain ⟨g3, c3, hv3, _, _⟩ := hown.form (by omega)
                    subst hv3
                    have hS3 : AtSt w w1.heap.size (.slice (some ⟨g3, 0, none⟩) (m + 1) c3) (atL f z x Y j ++ [F]) w3 := HA1.out.grow hgrow (by rw [← HA.out.1]; exact hown)
                    have HS3 := Lib.hid hS3
                    clear hS3 hown hgrow
                    go_wp2_with fail
                    go_roundw
                    case rel => exact ⟨_, m + 1, c3, j + 1, rfl, by go_num, by omega, by omega, Lib.hid (by rw [HST2.out]; exact ⟨by rw [List.length_append, ← HA.out.1]; rfl, HS3.out⟩)⟩
                    case measure => simp [intOf]; omega
                  · have d4 : decide (F < Y) = false := decide_eq_false hx2
                    have HNN2 := Lib.hid (show ¬ (z j = true ∧ x < F ∧ F < Y) from fun h => hx2 h.2.2)
                    clear hx2
                    go_wp2_with fail
                    go_roundw
                    case rel => exact ⟨ob, m, c2, j + 1, rfl, by go_num, by omega, by omega, Lib.hid (by rw [HST.out, if_neg HNN2.out]; exact ⟨HA.out.1, HA1.out⟩)⟩
                    case measure => simp [intOf]; omega
                · have d3 : decide (x < F) = false := decide_eq_false hx1
                  have HNN2 := Lib.hid (show ¬ (z j = true ∧ x < F ∧ F < Y) from fun h => hx1 h.2.1)
                  clear hx1
                  go_wp2_with fail
                  go_roundw
                  case rel => exact ⟨ob, m, c2, j + 1, rfl, by go_num, by omega, by omega, Lib.hid (by rw [HST.out, if_neg HNN2.out]; exact ⟨HA.out.1, HA1.out⟩)⟩
                  case measure => simp [intOf]; omega
              · have e1 : inZ z j = 0 := if_neg hz
                rw [e1] at ci
                have HNN2 := Lib.hid (show ¬ (z j = true ∧ x < F ∧ F < Y) from fun h => hz h.1)
                clear hz e1
                go_wp2_with fail
                go_roundw
                case rel => exact ⟨ob, m, c2, j + 1, rfl, by go_num, by omega, by omega, Lib.hid (by rw [HST.out, if_neg HNN2.out]; exact ⟨HA.out.1, HA1.out⟩)⟩
                case measure => simp [intOf]; omega
            · obtain rfl : n = j := by omega
              obtain ⟨l, hl⟩ : ∃ y, atL f z x Y n = y := ⟨_, rfl⟩
              have HLQ := Lib.hid hl
              have hal := HA.out
              rw [hl] at hal
              have HAL := Lib.hid hal
              have hl1 : 1 ≤ m := by rw [HA.out.1]; exact (atL_len f z x Y n).1
              clear hl hal HA HB0
              obtain ⟨g, c5, hg1, hg2, hg3⟩ := own_ints (by rw [← HAL.out.1]; exact hl1) HAL.out.2.2.2.1
              rw [← HAL.out.1] at hg1 hg3
              have hlm := Lib.hid HAL.out.1
              simp only [Value.slice.injEq, true_and] at hg1
              obtain ⟨rfl, rfl⟩ := hg1
              have HG := Lib.hid hg3
              have HW2 := Lib.hid HAL.out.2.2.2.2
              clear hg3
              go_wp2_with fail
              go_loopw [90] (fun c wr => ∃ q : Nat, c = .int .i64 (q : Int) ∧ q ≤ m ∧ Hid (∀ q', q' < q → lay T f t z r (l.getD q' 0) U n ≤ hv r) ∧ Hid (Below w.heap.size w wr) ∧ Hid (OwnI wr g m fun j => l.getD j 0)) (fun c _ => m - (intOf c).toNat)
              case atStart => exact ⟨0, rfl, by omega, Lib.hid fun r hr => absurd hr (Nat.not_lt_zero r), HW2, HG⟩
              case round =>
                clear HG HW2
                obtain ⟨q, rfl, hq, HQ, HW3, HG⟩ := hrel
                obtain ⟨wC, rfl⟩ : ∃ wo : World, wo = wr := ⟨_, rfl⟩
                by_cases hqm : q < m
                · obtain ⟨kz, k0, k1, k2, k3⟩ := HK.out.call HW3.out
                  have HRC := Lib.hid (HR.out.call HW3.out)
                  obtain ⟨Lx, Nb, al, lc, cl, au, uc, cu, c0, c1, c2, c3, huse⟩ := use_at HRC.out (show i < T.n by rw [HNN.out]; exact hi)
                  have hab := World.block_lt_of_cell? _ _ c0
                  have hus := huse r wC (Below.refl _ _)
                  rw [HUE.out] at hus
                  have cg : wC.cell? ⟨g, q, none⟩ = some (.int .i64 (l.getD q 0)) := (HG.out.2 q hqm).1
                  have hgb := HG.out.1
                  obtain ⟨u, hu⟩ : ∃ y, l.getD q 0 = y := ⟨_, rfl⟩
                  rw [hu] at cg
                  have HUQ := Lib.hid hu
                  have q1 : (0 : Int) ≤ (q : Int) := by omega
                  have q2 : (q : Int) < (m : Int) := by omega
                  clear hu huse
                  go_wp2_with fail
                  refine hus.mono ?_
                  clear hus
                  rintro e w4 ⟨rfl, hb4⟩
                  have HW4 := Lib.hid (thenB HW3.out hb4)
                  have HG4 := Lib.hid (HG.out.call hb4)
                  obtain ⟨q3, q4⟩ : w4.cell? ⟨K, 2, none⟩ = some (.slice (some ⟨B, 0, none⟩) n n) ∧ K < w4.heap.size := ⟨(HK.out.call HW4.out).2.2.2.1, (HK.out.call HW4.out).1⟩
                  clear hb4 kz k0 k1 k2 k3 c0 c1 c2 c3 hab cg hgb
                  go_wp2_with fail
                  clear q3 q4
                  go_loopw [14, 108] (fun N c wr => ∃ (N0 : Int) (j : Nat), N = .int .i64 N0 ∧ c = .int .i64 (j : Int) ∧ j ≤ n ∧ Hid (N0 = lay T f t z r u U j) ∧ Hid (Below w.heap.size w wr) ∧ Hid (OwnI wr g m fun j => l.getD j 0)) (fun _ c _ => n - (intOf c).toNat)
                  case atStart => exact ⟨U, 0, rfl, rfl, by omega, Lib.hid rfl, HW4, HG4⟩
                  case round =>
                    clear HW4 HG4
                    obtain ⟨N0, j, rfl, rfl, hj, HN, HW4, HG4⟩ := hrel
                    obtain ⟨wD, rfl⟩ : ∃ wo : World, wo = wr := ⟨_, rfl⟩
                    have hbd := lay_bd HU.out f t z r u U hub j
                    rw [← HN.out] at hbd
                    by_cases hjn : j < n
                    · obtain ⟨kz, k0, -, -, k3⟩ := HK.out.call HW4.out
                      obtain ⟨⟨s0, -⟩, s1, -⟩ := (HO.out.call HW4.out).2 j hjn
                      have ci := ((HI.out.call HW4.out).2 j hjn).1
                      have hib := (HI.out.call HW4.out).1
                      have hstep : lay T f t z r u U (j + 1) = if Act f t z u j then lay T f t z r u U j + T.use j r else lay T f t z r u U j := rfl
                      rw [← HN.out] at hstep
                      obtain ⟨F, hF⟩ : ∃ y, f j = y := ⟨_, rfl⟩
                      obtain ⟨TK, hTK⟩ : ∃ y, t j = y := ⟨_, rfl⟩
                      have hact : Act f t z u j ↔ z j = true ∧ F ≤ u ∧ u < TK := by rw [← hF, ← hTK]; exact Iff.rfl
                      rw [hF] at s0
                      rw [hTK] at s1
                      have HST := Lib.hid hstep
                      have HAC := Lib.hid hact
                      have j1 : (0 : Int) ≤ (j : Int) := by omega
                      have j2 : (j : Int) < (n : Int) := by omega
                      have HW5 := Lib.hid (HW4.out.alloc HW4.out.size (.cells #[.int .i64 F, .int .i64 TK] 38))
                      have HG5 := Lib.hid (HG4.out.alloc (.cells #[.int .i64 F, .int .i64 TK] 38))
                      clear hF hTK hstep hact
                      by_cases hz : z j = true
                      · have e1 : inZ z j = 1 := if_pos hz
                        rw [e1] at ci
                        have HZ := Lib.hid hz
                        clear hz e1
                        by_cases hx1 : F ≤ u
                        · have d3 : decide (F ≤ u) = true := decide_eq_true hx1
                          have HX1 := Lib.hid hx1
                          clear hx1
                          by_cases hx2 : u < TK
                          · have d4 : decide (u < TK) = true := decide_eq_true hx2
                            have HST2 := Lib.hid (show lay T f t z r u U (j + 1) = N0 + T.use j r from by rw [HST.out, if_pos (HAC.out.2 ⟨HZ.out, HX1.out, hx2⟩)])
                            have hx2b := hx2
                            clear hx2 hx2b
                            obtain ⟨Lx2, Nb2, al2, lc2, cl2, au2, uc2, cu2, c0, c1, c2', c3, huse⟩ := use_at (HR.out.call HW4.out) (show j < T.n by rw [HNN.out]; exact hjn)
                            have hab := World.block_lt_of_cell? _ _ c0
                            have hub2 := HU.out j r
                            have hus := huse r (wD.alloc (.cells #[.int .i64 F, .int .i64 TK] 38)) (Below.alloc (Below.refl _ _) (Nat.le_refl _) _)
                            obtain ⟨U2, hU2⟩ : ∃ y, T.use j r = y := ⟨_, rfl⟩
                            rw [hU2] at hus hub2
                            have HU2 := Lib.hid hU2
                            clear hU2 huse
                            go_wp2_with fail
                            refine hus.mono ?_
                            clear hus
                            rintro e w6 ⟨rfl, hb6⟩
                            have HW6 := Lib.hid (thenB HW5.out hb6)
                            have HG6 := Lib.hid (HG5.out.call hb6)
                            clear hb6 kz k0 k3 s0 s1 ci hib c0 c1 c2' c3 hab
                            go_wp2_with fail
                            go_roundw
                            case rel => exact ⟨N0 + U2, j + 1, by go_num, by go_num, by omega, Lib.hid (by rw [HST2.out, HU2.out]), HW6, HG6⟩
                            case measure => simp [intOf]; omega
                          · have d4 : decide (u < TK) = false := decide_eq_false hx2
                            have HNN2 := Lib.hid (show ¬ Act f t z u j from fun h => hx2 (HAC.out.1 h).2.2)
                            clear hx2
                            go_wp2_with fail
                            go_roundw
                            case rel => exact ⟨N0, j + 1, rfl, by go_num, by omega, Lib.hid (by rw [HST.out, if_neg HNN2.out]), HW5, HG5⟩
                            case measure => simp [intOf]; omega
                        · have d3 : decide (F ≤ u) = false := decide_eq_false hx1
                          have HNN2 := Lib.hid (show ¬ Act f t z u j from fun h => hx1 (HAC.out.1 h).2.1)
                          clear hx1
                          go_wp2_with fail
                          go_roundw
                          case rel => exact ⟨N0, j + 1, rfl, by go_num, by omega, Lib.hid (by rw [HST.out, if_neg HNN2.out]), HW5, HG5⟩
                          case measure => simp [intOf]; omega
                      · have e1 : inZ z j = 0 := if_neg hz
                        rw [e1] at ci
                        have HNN2 := Lib.hid (show ¬ Act f t z u j from fun h => hz (HAC.out.1 h).1)
                        clear hz e1
                        go_wp2_with fail
                        go_roundw
                        case rel => exact ⟨N0, j + 1, rfl, by go_num, by omega, Lib.hid (by rw [HST.out, if_neg HNN2.out]), HW5, HG5⟩
                        case measure => simp [intOf]; omega
                    · obtain rfl : n = j := by omega
                      obtain ⟨kz, -, k1, -, -⟩ := HK.out.call HW4.out
                      have HH4 := HH.out.call HW4.out
                      obtain ⟨bh, rfl⟩ := HH4.1 (by omega)
                      have chh := HH4.at hrn
                      have hbb := World.block_lt_of_cell? _ _ chh
                      obtain ⟨V, hV⟩ : ∃ y, hv r = y := ⟨_, rfl⟩
                      rw [hV] at chh
                      have HV := Lib.hid hV
                      have r1 : (0 : Int) ≤ (r : Int) := by omega
                      have r2 : (r : Int) < (hn : Int) := by omega
                      clear HH4 hV
                      by_cases hgt : V < N0
                      · have d5 : decide (V < N0) = true := decide_eq_true hgt
                        have HGT := Lib.hid hgt
                        clear hgt
                        go_wp2_with fail
                        go_ret
                        refine ⟨false, rfl, ⟨fun h => Bool.noConfusion h, fun h => ?_⟩, HW4.out⟩
                        have h1 := h r hrn (by rw [HUE.out]; exact HU0.out) (by rw [HL.out]; exact HL0.out) u (by
                          rw [HL.out, HY.out, HLQ.out, ← HUQ.out, List.getD_eq_getElem?_getD, List.getElem?_eq_getElem (by rw [← hlm.out]; exact hqm)]
                          exact List.getElem_mem _)
                        rw [HUE.out, ← HN.out, HV.out] at h1
                        have := HGT.out
                        omega
                      · have d5 : decide (V < N0) = false := decide_eq_false hgt
                        have HGT := Lib.hid hgt
                        clear hgt
                        go_wp2_with fail
                        go_roundw
                        case rel =>
                          refine ⟨q + 1, by go_num, by omega, Lib.hid fun q' hq' => ?_, HW4, HG4⟩
                          by_cases e : q' = q
                          · subst e
                            rw [HUQ.out, ← HN.out, HV.out]
                            have := HGT.out
                            omega
                          · exact HQ.out q' (by omega)
                        case measure => simp [intOf]; omega
                · obtain rfl : m = q := by omega
                  go_wp2_with fail
                  go_roundw
                  case rel =>
                    refine ⟨r + 1, by go_num, by omega, Lib.hid fun r' hr' => ?_, HW3⟩
                    by_cases e : r' = r
                    · subst e
                      intro _ _ u hu
                      rw [HL.out, HY.out, HLQ.out] at hu
                      obtain ⟨k, hk, rfl⟩ := List.getElem_of_mem hu
                      have h1 := HQ.out k (by rw [hlm.out]; exact hk)
                      rw [List.getD_eq_getElem?_getD, List.getElem?_eq_getElem hk] at h1
                      rw [HUE.out]
                      exact h1
                    · exact HF.out r' (by omega)
                  case measure => simp [intOf]; omega
    · obtain rfl : hn = r := by omega
      go_wp2_with fail
      go_ret
      exact ⟨true, rfl, ⟨fun _ => HF.out, fun _ => rfl⟩, HW.out⟩
end Go.Proofs.YthhaopdimilmcaaDoor
