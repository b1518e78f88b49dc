/- The law PlanTimes. -/
import Derived.Test.YthhaopdimilmcaaDoorRefJ
namespace Go.Proofs.YthhaopdimilmcaaDoor
open Go.RowKit
theorem tmodL2 (n : Int) : (n.tmod 2 < 0 → n.tmod 2 + 2 = n % 2) ∧ (¬ n.tmod 2 < 0 → n.tmod 2 = n % 2) := by
  have h1 := Int.mul_tdiv_add_tmod n 2
  have h2 := Int.natAbs_tmod n 2
  have h3 := Nat.mod_lt n.natAbs (show 0 < (2 : Int).natAbs by decide)
  constructor
  · intro h; omega
  · intro h; omega
set_option maxHeartbeats 400000 in
theorem pick2 (n : Int) (w : World) : Calls Tryd.prog 18 #[.int .i64 n, .int .i64 2] w fun e w' => e = .returned (.int .i64 (n % 2)) ∧ w' = w := by
  obtain ⟨g1, g2⟩ := tmodL2 n
  have g3 : -2 < n.tmod 2 ∧ n.tmod 2 < 2 := by
    have h2 := Int.natAbs_tmod n 2
    have h3 := Nat.mod_lt n.natAbs (show 0 < (2 : Int).natAbs by decide)
    omega
  by_cases h : n.tmod 2 < 0
  · have H := Lib.hid (g1 h)
    clear g1 g2
    obtain ⟨g4, g5⟩ := g3
    go_enter Tryd.func18, Tryd.ntmps18
    go_wp2_with fail
    all_goals go_ret
    all_goals exact ⟨ret1 (by have := H.out; first | exact this | simp_all | omega), rfl⟩
  · have H := Lib.hid (g2 h)
    clear g1 g2
    obtain ⟨g4, g5⟩ := g3
    go_enter Tryd.func18, Tryd.ntmps18
    go_wp2_with fail
    all_goals go_ret
    all_goals exact ⟨ret1 (by have := H.out; first | exact this | simp_all | omega), rfl⟩
theorem tmodL50 (n : Int) : (n.tmod 50 < 0 → n.tmod 50 + 50 = n % 50) ∧ (¬ n.tmod 50 < 0 → n.tmod 50 = n % 50) := by
  have h1 := Int.mul_tdiv_add_tmod n 50
  have h2 := Int.natAbs_tmod n 50
  have h3 := Nat.mod_lt n.natAbs (show 0 < (50 : Int).natAbs by decide)
  constructor
  · intro h; omega
  · intro h; omega
set_option maxHeartbeats 400000 in
theorem pick50 (n : Int) (w : World) : Calls Tryd.prog 18 #[.int .i64 n, .int .i64 50] w fun e w' => e = .returned (.int .i64 (n % 50)) ∧ w' = w := by
  obtain ⟨g1, g2⟩ := tmodL50 n
  have g3 : -50 < n.tmod 50 ∧ n.tmod 50 < 50 := by
    have h2 := Int.natAbs_tmod n 50
    have h3 := Nat.mod_lt n.natAbs (show 0 < (50 : Int).natAbs by decide)
    omega
  by_cases h : n.tmod 50 < 0
  · have H := Lib.hid (g1 h)
    clear g1 g2
    obtain ⟨g4, g5⟩ := g3
    go_enter Tryd.func18, Tryd.ntmps18
    go_wp2_with fail
    all_goals go_ret
    all_goals exact ⟨ret1 (by have := H.out; first | exact this | simp_all | omega), rfl⟩
  · have H := Lib.hid (g2 h)
    clear g1 g2
    obtain ⟨g4, g5⟩ := g3
    go_enter Tryd.func18, Tryd.ntmps18
    go_wp2_with fail
    all_goals go_ret
    all_goals exact ⟨ret1 (by have := H.out; first | exact this | simp_all | omega), rfl⟩
theorem pick2_Q (n : Int) (w : World) : Calls Tryd.prog 18 #[.int .i64 n, .int .i64 2] w fun e w' => e = .returned (.int .i64 (n % 2)) ∧ w' = w := pick2 n w
theorem SameS.list {w : World} {v v' : Value} (h : SameS w v v') : Calls Tryd.prog 23 #[v, v'] w fun e w' => e = .returned (.bool true) ∧ Below w.heap.size w w' := by
  obtain ⟨n, b, b', f, t, f', t', h1, h2, h3, h4, h5⟩ := h
  exact listSpan_same v v' n b b' f t f' t' w h1 h2 h3 h4 h5
theorem SameI.list {w : World} {v v' : Value} (h : SameI w v v') : Calls Tryd.prog 24 #[v, v'] w fun e w' => e = .returned (.bool true) ∧ Below w.heap.size w w' := by
  obtain ⟨l, b, b', h1, h2, h3⟩ := h
  exact listInt_same v v' b b' l w h1 h2 h3
theorem SameS.call {w w' : World} {v v' : Value} (h : SameS w v v') (hb : Below w.heap.size w w') : SameS w' v v' := by
  obtain ⟨n, b, b', f, t, f', t', h1, h2, h3, h4, h5⟩ := h
  exact ⟨n, b, b', f, t, f', t', h1, h2.call hb, h3.call hb, h4, h5⟩
theorem SameI.call {w w' : World} {v v' : Value} (h : SameI w v v') (hb : Below w.heap.size w w') : SameI w' v v' := by
  obtain ⟨l, b, b', h1, h2, h3⟩ := h
  exact ⟨l, b, b', h1, h2.call hb, h3.call hb⟩
set_option maxRecDepth 100000 in
set_option maxHeartbeats 16000000 in
theorem planTimes_walk (oa : Option Addr) (cap : Nat) (AL AU : Nat → Option Addr) (CL CU : Nat → Nat) (T : Plan) (n : Nat) (y : Int) (w : World) (hT : ErrT w) (hnn : T.n = n) (hn : n ≤ 9223372036854775807) (hlc : ∀ i, i < n → T.lc i ≤ 9223372036854775807 ∧ T.uc i ≤ 9223372036854775807) (hR : PlanR w oa AL AU CL CU T) (hy : -9223372036854775808 ≤ y ∧ y ≤ 9223372036854775807) :
    Calls Tryd.prog 5 #[.slice oa n cap, .int .i64 y] w fun e w' => e = .returned (.bool true) ∧ Below w.heap.size w w' := by
  have HT := Lib.hid hT
  have HR := Lib.hid hR
  have HLC := Lib.hid hlc
  have HNN := Lib.hid hnn
  obtain ⟨y1, y2⟩ := hy
  clear hT hR hlc hnn
  by_cases hbig : 200 < n
  · have hb : decide ((200 : Int) < (n : Int)) = true := decide_eq_true (by omega)
    go_enter Tryd.func5, Tryd.ntmps5
    go_wp2_with fail
    go_ret
    exact ⟨rfl, Below.refl _ _⟩
  have hb : decide ((200 : Int) < (n : Int)) = false := decide_eq_false (by omega)
  go_enter Tryd.func5, Tryd.ntmps5
  go_wp2_with fail
  -- PlanEarly
  refine (plainEarly_any oa cap AL AU CL CU T n w HNN.out HT.out hn HLC.out HR.out).mono ?_
  rintro e w1 ⟨a, e1, rfl, hA, hb1⟩
  have HA := Lib.hid hA
  have HT1 := Lib.hid (HT.out.call hb1)
  have HB1 := Lib.hid hb1
  clear hA hb1
  go_wp2_with fail
  -- ref.Early
  refine (refEarly_any oa cap AL AU CL CU T n w1 HNN.out hn HLC.out (HR.out.call HB1.out)).mono ?_
  rintro e w2 ⟨b, f1, rfl, hBV, hb2⟩
  have hag := early_agree (HA.out.call hb2) hBV
  have HAB := Lib.hid hag.2
  obtain ⟨rfl, -⟩ := hag
  have HT2 := Lib.hid (HT1.out.call hb2)
  have HB2 := Lib.hid (thenB HB1.out hb2)
  clear hBV hb2 HA
  go_wp2_with fail
  -- PlanEnd
  refine (plainEnd_any oa cap AL AU CL CU T n w2 HNN.out HT2.out hn HLC.out (HR.out.call HB2.out)).mono ?_
  rintro e w3 ⟨nv, g1, rfl, hN, hb3⟩
  have HNV := Lib.hid hN
  have HAB3 := Lib.hid (HAB.out.call hb3)
  have HB3 := Lib.hid (thenB HB2.out hb3)
  have HT3 := Lib.hid (HT2.out.call hb3)
  clear hN hb3 HAB
  go_wp2_with fail
  -- ref.End
  refine (refEnd_any oa cap AL AU CL CU T n w3 HNN.out hn HLC.out (HR.out.call HB3.out)).mono ?_
  rintro e w4 ⟨kv, h1, rfl, hK, hb4⟩
  have hag := end_agree (HNV.out.call hb4) hK
  obtain ⟨rfl, rfl, N, rfl, hN0, hN1⟩ := hag
  have HAB4 := Lib.hid (HAB3.out.call hb4)
  have HB4 := Lib.hid (thenB HB3.out hb4)
  have HT4 := Lib.hid (HT3.out.call hb4)
  clear hK hb4 HAB3 HNV
  go_wp2_with fail
  refine (pick2 y _).mono ?_; rintro e w' ⟨rfl, hw'⟩; obtain rfl := hw'.symm; clear hw'
  obtain ⟨Z, hZ⟩ : ∃ x, y % 2 = x := ⟨_, rfl⟩
  rw [hZ]
  by_cases hz0 : Z = 0
  · subst hz0
    clear hZ
    go_wp2_with fail
    refine (pick50 (y.tdiv 2) w4).mono ?_; rintro e w' ⟨rfl, hw'⟩; obtain rfl := hw'.symm; clear hw'
    have m0 := Int.emod_nonneg (y.tdiv 2) (show (50 : Int) ≠ 0 by decide)
    have m1 := Int.emod_lt_of_pos (y.tdiv 2) (show (0 : Int) < 50 by decide)
    obtain ⟨D, hD⟩ : ∃ x, y.tdiv 2 % 50 = x := ⟨_, rfl⟩
    rw [hD] at m0 m1 ⊢
    clear hD
    go_wp2_with fail
    refine (plainLate_any oa cap AL AU CL CU T n (N + D) w4 HNN.out HT4.out hn HLC.out (HR.out.call HB4.out)).mono ?_
    rintro e w5 ⟨c, i1, rfl, hC, hb5⟩
    have HCV := Lib.hid hC
    have HAB5 := Lib.hid (HAB4.out.call hb5)
    have HB5 := Lib.hid (thenB HB4.out hb5)
    have HT5 := Lib.hid (HT4.out.call hb5)
    clear hC hb5 HAB4
    go_wp2_with fail
    refine (refLate_any oa cap AL AU CL CU T n (N + D) w5 HNN.out hn HLC.out (HR.out.call HB5.out)).mono ?_
    rintro e w6 ⟨d, j1, rfl, hDV, hb6⟩
    have hag := late_agree (HCV.out.call hb6) hDV
    have HCD := Lib.hid hag.2
    obtain ⟨rfl, -⟩ := hag
    have HAB6 := Lib.hid (HAB5.out.call hb6)
    have HB6 := Lib.hid (thenB HB5.out hb6)
    have HT6 := Lib.hid (HT5.out.call hb6)
    clear hDV hb6 HAB5 HCV
    go_wp2_with fail
    refine (plainCritical_any oa cap AL AU CL CU T n w6 HNN.out HT6.out hn HLC.out (HR.out.call HB6.out)).mono ?_
    rintro e w7 ⟨p, o1, rfl, hP, hb7⟩
    have HPV := Lib.hid hP
    have HAB7 := Lib.hid (HAB6.out.call hb7)
    have HCD7 := Lib.hid (HCD.out.call hb7)
    have HB7 := Lib.hid (thenB HB6.out hb7)
    have HT7 := Lib.hid (HT6.out.call hb7)
    clear hP hb7 HAB6 HCD
    go_wp2_with fail
    refine (refCritical_any oa cap AL AU CL CU T n w7 HNN.out hn HLC.out (HR.out.call HB7.out)).mono ?_
    rintro e w8 ⟨q, r1, rfl, hQV, hb8⟩
    have hag := crit_agree (HPV.out.call hb8) hQV
    have HPQ := Lib.hid hag.2
    obtain ⟨rfl, -⟩ := hag
    have HAB8 := Lib.hid (HAB7.out.call hb8)
    have HCD8 := Lib.hid (HCD7.out.call hb8)
    have HB8 := Lib.hid (thenB HB7.out hb8)
    have HT8 := Lib.hid (HT7.out.call hb8)
    clear hQV hb8 HAB7 HCD7 HPV
    go_wp2_with fail
    refine (plainPath_any oa cap AL AU CL CU T n w8 HNN.out HT8.out hn HLC.out (HR.out.call HB8.out)).mono ?_
    rintro e w9 ⟨x, s1, rfl, hX, hb9⟩
    have HXV := Lib.hid hX
    have HAB9 := Lib.hid (HAB8.out.call hb9)
    have HCD9 := Lib.hid (HCD8.out.call hb9)
    have HPQ9 := Lib.hid (HPQ.out.call hb9)
    have HB9 := Lib.hid (thenB HB8.out hb9)
    have HT9 := Lib.hid (HT8.out.call hb9)
    clear hX hb9 HAB8 HCD8 HPQ
    go_wp2_with fail
    refine (refPath_any oa cap AL AU CL CU T n w9 HNN.out hn HLC.out (HR.out.call HB9.out)).mono ?_
    rintro e w10 ⟨z, t1, rfl, hZV, hb10⟩
    have hag := path_agree (HXV.out.call hb10) hZV
    have HXZ := Lib.hid hag.2
    obtain ⟨rfl, -⟩ := hag
    have HAB10 := Lib.hid (HAB9.out.call hb10)
    have HCD10 := Lib.hid (HCD9.out.call hb10)
    have HPQ10 := Lib.hid (HPQ9.out.call hb10)
    have HB10 := Lib.hid (thenB HB9.out hb10)
    have HT10 := Lib.hid (HT9.out.call hb10)
    clear hZV hb10 HAB9 HCD9 HPQ9 HXV
    go_wp2_with fail
    refine (plainCheck_any oa cap AL AU CL CU T n w10 HNN.out HT10.out hn HLC.out (HR.out.call HB10.out)).mono ?_
    rintro e w11 ⟨rfl, hb11⟩
    have HB11 := Lib.hid (thenB HB10.out hb11)
    have HAB11 := Lib.hid (HAB10.out.call hb11)
    have HCD11 := Lib.hid (HCD10.out.call hb11)
    have HPQ11 := Lib.hid (HPQ10.out.call hb11)
    have HXZ11 := Lib.hid (HXZ.out.call hb11)
    clear hb11
    go_wp2_with fail
    have hrc := refCheck_any oa cap AL AU CL CU T w11 (by rw [HNN.out]; exact hn) (by rw [HNN.out]; exact HLC.out) (HR.out.call HB11.out)
    rw [HNN.out] at hrc
    refine hrc.mono ?_
    clear hrc
    rintro e w12 ⟨rfl, hb12⟩
    have HB12 := Lib.hid (thenB HB11.out hb12)
    have HAB12 := Lib.hid (HAB11.out.call hb12)
    have HCD12 := Lib.hid (HCD11.out.call hb12)
    have HPQ12 := Lib.hid (HPQ11.out.call hb12)
    have HXZ12 := Lib.hid (HXZ11.out.call hb12)
    clear hb12
    have hcc : (T.chk == T.chk) = true := by simp
    go_wp2_with fail
    refine HAB12.out.list.mono ?_
    rintro e w13 ⟨rfl, hb13⟩
    have HB13 := Lib.hid (thenB HB12.out hb13)
    have HCD13 := Lib.hid (HCD12.out.call hb13)
    have HPQ13 := Lib.hid (HPQ12.out.call hb13)
    have HXZ13 := Lib.hid (HXZ12.out.call hb13)
    clear hb13
    go_wp2_with fail
    refine HCD13.out.list.mono ?_
    rintro e w14 ⟨rfl, hb14⟩
    have HB14 := Lib.hid (thenB HB13.out hb14)
    have HPQ14 := Lib.hid (HPQ13.out.call hb14)
    have HXZ14 := Lib.hid (HXZ13.out.call hb14)
    clear hb14
    go_wp2_with fail
    refine HPQ14.out.list.mono ?_
    rintro e w15 ⟨rfl, hb15⟩
    have HB15 := Lib.hid (thenB HB14.out hb15)
    have HXZ15 := Lib.hid (HXZ14.out.call hb15)
    clear hb15
    go_wp2_with fail
    refine HXZ15.out.list.mono ?_
    rintro e w16 ⟨rfl, hb16⟩
    have HB16 := Lib.hid (thenB HB15.out hb16)
    clear hb16
    go_wp2_with fail
    go_ret
    exact ⟨rfl, HB16.out⟩
  · have hzb : (Z == 0) = false := by simpa using hz0
    clear hZ
    go_wp2_with fail
    refine (plainLate_any oa cap AL AU CL CU T n y w4 HNN.out HT4.out hn HLC.out (HR.out.call HB4.out)).mono ?_
    rintro e w5 ⟨c, i1, rfl, hC, hb5⟩
    have HCV := Lib.hid hC
    have HAB5 := Lib.hid (HAB4.out.call hb5)
    have HB5 := Lib.hid (thenB HB4.out hb5)
    have HT5 := Lib.hid (HT4.out.call hb5)
    clear hC hb5 HAB4
    go_wp2_with fail
    refine (refLate_any oa cap AL AU CL CU T n y w5 HNN.out hn HLC.out (HR.out.call HB5.out)).mono ?_
    rintro e w6 ⟨d, j1, rfl, hDV, hb6⟩
    have hag := late_agree (HCV.out.call hb6) hDV
    have HCD := Lib.hid hag.2
    obtain ⟨rfl, -⟩ := hag
    have HAB6 := Lib.hid (HAB5.out.call hb6)
    have HB6 := Lib.hid (thenB HB5.out hb6)
    have HT6 := Lib.hid (HT5.out.call hb6)
    clear hDV hb6 HAB5 HCV
    go_wp2_with fail
    refine (plainCritical_any oa cap AL AU CL CU T n w6 HNN.out HT6.out hn HLC.out (HR.out.call HB6.out)).mono ?_
    rintro e w7 ⟨p, o1, rfl, hP, hb7⟩
    have HPV := Lib.hid hP
    have HAB7 := Lib.hid (HAB6.out.call hb7)
    have HCD7 := Lib.hid (HCD.out.call hb7)
    have HB7 := Lib.hid (thenB HB6.out hb7)
    have HT7 := Lib.hid (HT6.out.call hb7)
    clear hP hb7 HAB6 HCD
    go_wp2_with fail
    refine (refCritical_any oa cap AL AU CL CU T n w7 HNN.out hn HLC.out (HR.out.call HB7.out)).mono ?_
    rintro e w8 ⟨q, r1, rfl, hQV, hb8⟩
    have hag := crit_agree (HPV.out.call hb8) hQV
    have HPQ := Lib.hid hag.2
    obtain ⟨rfl, -⟩ := hag
    have HAB8 := Lib.hid (HAB7.out.call hb8)
    have HCD8 := Lib.hid (HCD7.out.call hb8)
    have HB8 := Lib.hid (thenB HB7.out hb8)
    have HT8 := Lib.hid (HT7.out.call hb8)
    clear hQV hb8 HAB7 HCD7 HPV
    go_wp2_with fail
    refine (plainPath_any oa cap AL AU CL CU T n w8 HNN.out HT8.out hn HLC.out (HR.out.call HB8.out)).mono ?_
    rintro e w9 ⟨x, s1, rfl, hX, hb9⟩
    have HXV := Lib.hid hX
    have HAB9 := Lib.hid (HAB8.out.call hb9)
    have HCD9 := Lib.hid (HCD8.out.call hb9)
    have HPQ9 := Lib.hid (HPQ.out.call hb9)
    have HB9 := Lib.hid (thenB HB8.out hb9)
    have HT9 := Lib.hid (HT8.out.call hb9)
    clear hX hb9 HAB8 HCD8 HPQ
    go_wp2_with fail
    refine (refPath_any oa cap AL AU CL CU T n w9 HNN.out hn HLC.out (HR.out.call HB9.out)).mono ?_
    rintro e w10 ⟨z, t1, rfl, hZV, hb10⟩
    have hag := path_agree (HXV.out.call hb10) hZV
    have HXZ := Lib.hid hag.2
    obtain ⟨rfl, -⟩ := hag
    have HAB10 := Lib.hid (HAB9.out.call hb10)
    have HCD10 := Lib.hid (HCD9.out.call hb10)
    have HPQ10 := Lib.hid (HPQ9.out.call hb10)
    have HB10 := Lib.hid (thenB HB9.out hb10)
    have HT10 := Lib.hid (HT9.out.call hb10)
    clear hZV hb10 HAB9 HCD9 HPQ9 HXV
    go_wp2_with fail
    refine (plainCheck_any oa cap AL AU CL CU T n w10 HNN.out HT10.out hn HLC.out (HR.out.call HB10.out)).mono ?_
    rintro e w11 ⟨rfl, hb11⟩
    have HB11 := Lib.hid (thenB HB10.out hb11)
    have HAB11 := Lib.hid (HAB10.out.call hb11)
    have HCD11 := Lib.hid (HCD10.out.call hb11)
    have HPQ11 := Lib.hid (HPQ10.out.call hb11)
    have HXZ11 := Lib.hid (HXZ.out.call hb11)
    clear hb11
    go_wp2_with fail
    have hrc := refCheck_any oa cap AL AU CL CU T w11 (by rw [HNN.out]; exact hn) (by rw [HNN.out]; exact HLC.out) (HR.out.call HB11.out)
    rw [HNN.out] at hrc
    refine hrc.mono ?_
    clear hrc
    rintro e w12 ⟨rfl, hb12⟩
    have HB12 := Lib.hid (thenB HB11.out hb12)
    have HAB12 := Lib.hid (HAB11.out.call hb12)
    have HCD12 := Lib.hid (HCD11.out.call hb12)
    have HPQ12 := Lib.hid (HPQ11.out.call hb12)
    have HXZ12 := Lib.hid (HXZ11.out.call hb12)
    clear hb12
    have hcc : (T.chk == T.chk) = true := by simp
    go_wp2_with fail
    refine HAB12.out.list.mono ?_
    rintro e w13 ⟨rfl, hb13⟩
    have HB13 := Lib.hid (thenB HB12.out hb13)
    have HCD13 := Lib.hid (HCD12.out.call hb13)
    have HPQ13 := Lib.hid (HPQ12.out.call hb13)
    have HXZ13 := Lib.hid (HXZ12.out.call hb13)
    clear hb13
    go_wp2_with fail
    refine HCD13.out.list.mono ?_
    rintro e w14 ⟨rfl, hb14⟩
    have HB14 := Lib.hid (thenB HB13.out hb14)
    have HPQ14 := Lib.hid (HPQ13.out.call hb14)
    have HXZ14 := Lib.hid (HXZ13.out.call hb14)
    clear hb14
    go_wp2_with fail
    refine HPQ14.out.list.mono ?_
    rintro e w15 ⟨rfl, hb15⟩
    have HB15 := Lib.hid (thenB HB14.out hb15)
    have HXZ15 := Lib.hid (HXZ14.out.call hb15)
    clear hb15
    go_wp2_with fail
    refine HXZ15.out.list.mono ?_
    rintro e w16 ⟨rfl, hb16⟩
    have HB16 := Lib.hid (thenB HB15.out hb16)
    clear hb16
    go_wp2_with fail
    go_ret
    exact ⟨rfl, HB16.out⟩
end Go.Proofs.YthhaopdimilmcaaDoor
