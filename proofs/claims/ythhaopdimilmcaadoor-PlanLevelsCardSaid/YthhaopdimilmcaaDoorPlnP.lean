/- The program's Critical; plain.PlanPath, PlanCritical. -/
import Derived.Test.YthhaopdimilmcaaDoorPlnO
namespace Go.Proofs.YthhaopdimilmcaaDoor
open Go.RowKit
/-- What Critical answers. -/
def CritR (T : Plan) (w : World) (e : Ending) (w' : World) : Prop := Below w.heap.size w w' ∧ ((T.chk ≠ 0 ∧ e = .returned (.tuple #[.slice none 0 0, errV T.chk])) ∨ (T.chk = 0 ∧ ∃ s q v, Plan.Fix T s ∧ Plan.Latest T (Plan.last T s T.n) q ∧ e = .returned (.tuple #[v, .nilIface]) ∧ IntsL w' w.heap.size v (Plan.critL s q T.n)))
set_option maxRecDepth 100000 in
set_option maxHeartbeats 8000000 in
theorem critical_any (oa : Option Addr) (cap : Nat) (AL AU : Nat → Option Addr) (CL CU : Nat → Nat) (T : Plan) (w : World) (hn : T.n ≤ 9223372036854775807) (hlc : ∀ i, i < T.n → T.lc i ≤ 9223372036854775807 ∧ T.uc i ≤ 9223372036854775807) (hR : PlanR w oa AL AU CL CU T) :
    Calls Tryd.prog 33 #[.slice oa T.n cap] w (CritR T w) := by
  have hend := end_any oa cap AL AU CL CU T w hn hlc hR
  have hearly : ∀ w', PlanR w' oa AL AU CL CU T → Calls Tryd.prog 27 #[.slice oa T.n cap] w' (EarlyR T w') := fun w' h => early_any oa cap AL AU CL CU T w' hn hlc h
  have hlate : ∀ y w', PlanR w' oa AL AU CL CU T → Calls Tryd.prog 31 #[.slice oa T.n cap, .int .i64 y] w' (LateR T y w') := fun y w' h => late_any oa cap AL AU CL CU T y w' hn hlc h
  have HR := Lib.hid hR
  clear hR hn hlc
  obtain ⟨n, hnn⟩ : ∃ x, T.n = x := ⟨_, rfl⟩
  have HNN := Lib.hid hnn
  rw [hnn] at hend hearly hlate ⊢
  have HEA := Lib.hid hearly
  have HLA := Lib.hid hlate
  clear hnn hearly hlate
  go_enter Tryd.func33, Tryd.ntmps33
  go_wp2_with fail
  refine hend.mono ?_
  clear hend
  rintro e w1 ⟨hb1, (⟨hc, rfl⟩ | ⟨hc, s, rfl, hF, hbd⟩)⟩
  · have HB1 := Lib.hid hb1
    have HC := Lib.hid hc
    have HV := Lib.hid (chk_pos hc)
    clear hb1 hc
    rw [HV.out]
    go_wp2_with fail
    go_ret2
    exact ⟨HB1.out, .inl ⟨HC.out, by rw [HV.out]; rfl⟩⟩
  · have HB1 := Lib.hid hb1
    have HC := Lib.hid hc
    have HOK := Lib.hid (Plan.chk_ok hc)
    have HF := Lib.hid hF
    have HD := Lib.hid hbd
    have hn6 : n ≤ 60 := by rw [← HNN.out]; exact HOK.out.size
    have hEb := last_bd HOK.out hbd T.n (Nat.le_refl _)
    obtain ⟨E, hE⟩ : ∃ x, Plan.last T s T.n = x := ⟨_, rfl⟩
    rw [hE] at hEb ⊢
    have HE := Lib.hid hE
    clear hb1 hc hF hbd hE
    go_wp2_with fail
    refine (HEA.out w1 (HR.out.call HB1.out)).mono ?_
    rintro e w2 ⟨hb2, (⟨hc, rfl⟩ | ⟨hc, B, s2, rfl, hB, hO, hF2, hbd2⟩)⟩
    · exact absurd HC.out hc
    have HU := Lib.hid (Plan.Fix.unique HOK.out.full hF2 HF.out)
    rw [HNN.out] at hO ⊢
    have HO := Lib.hid (hO.congr (fun i hi => HU.out i (by rw [HNN.out]; exact hi)) (fun i hi => by rw [HU.out i (by rw [HNN.out]; exact hi)] : ∀ i, i < n → s2 i + T.len i = s i + T.len i))
    have HB2 := Lib.hid (thenB HB1.out hb2)
    clear hc hB hO hF2 hbd2 hb2
    go_wp2_with fail
    refine (HLA.out E w2 (HR.out.call HB2.out)).mono ?_
    rintro e w3 ⟨hb3, (⟨hc, rfl⟩ | ⟨_, s3, hF3, ⟨h3, rfl⟩ | ⟨h3, h4, rfl⟩ | ⟨_, _, B3, q, rfl, hB3, hQ, hL3, hbd3⟩⟩)⟩
    · exact absurd HC.out hc
    · rw [Plan.last_congr (T := T) T.n (Plan.Fix.unique HOK.out.full hF3 HF.out), HE.out] at h3
      omega
    · omega
    rw [HNN.out] at hQ ⊢
    have HQ := Lib.hid hQ
    have HL := Lib.hid hL3
    have HO3 := Lib.hid (HO.out.call hb3)
    have HB3 := Lib.hid (thenB HB2.out hb3)
    obtain ⟨i0, hi0, hz0, hz1, hz2⟩ := info_parts int_info
    clear hF3 hB3 hQ hL3 hbd3 hb3 HO
    go_wp2_with fail
    go_loopw [9, 35] (fun v c wr => ∃ (ob : Option Addr) (m c2 k : Nat), v = .slice ob m c2 ∧ c = .int .i64 (k : Int) ∧ k ≤ n ∧ Hid ((Plan.critL s q k).length = m) ∧ Hid (wr.ownsRow w3.heap.size 3 1 (.slice ob m c2) m (ntV (Plan.critL s q k))) ∧ Hid (Below w3.heap.size w3 wr)) (fun _ c _ => n - (intOf c).toNat)
    case atStart => exact ⟨none, 0, 0, 0, rfl, rfl, by omega, Lib.hid rfl, Lib.hid (World.ownsRow_nil _ _ _ _), Lib.hid (Below.refl _ _)⟩
    case round =>
      obtain ⟨ob, m, c2, k, rfl, rfl, hk, HM, HW, HLB⟩ := hrel
      obtain ⟨wA, rfl⟩ : ∃ wo : World, wo = wr := ⟨_, rfl⟩
      by_cases hkn : k < n
      · obtain ⟨⟨a0, _⟩, a1, _⟩ := (HO3.out.call HLB.out).2 k hkn
        obtain ⟨⟨b0, _⟩, b1, _⟩ := (HQ.out.call HLB.out).2 k hkn
        have hstep : Plan.critL s q (k + 1) = if s k = q k then Plan.critL s q k ++ [k] else Plan.critL s q k := rfl
        have hmk := Plan.critL_len s q k
        rw [HM.out] at hmk
        obtain ⟨S, hS⟩ : ∃ x, s k = x := ⟨_, rfl⟩
        obtain ⟨Q, hQ⟩ : ∃ x, q k = x := ⟨_, rfl⟩
        obtain ⟨L, hL⟩ : ∃ x, T.len k = x := ⟨_, rfl⟩
        rw [hS] at a0
        rw [hQ] at b0
        simp only [hS, hL] at a1
        simp only [hQ, hL] at b1
        rw [hS, hQ] at hstep
        have HST := Lib.hid hstep
        have r1 := cell_regrown a0
        have r2 := cell_regrown a1
        have r3 := cell_regrown b0
        have r4 := cell_regrown b1
        have k1 : (0 : Int) ≤ (k : Int) := by omega
        have k2 : (k : Int) < (n : Int) := by omega
        clear hS hQ hL hstep a0 a1 b0 b1
        by_cases hsq : S = Q
        · subst hsq
          go_wp2_with fail
          refine wp_region_below (by kernel_rfl) (by kernel_rfl) ?_
          repeat (go_big_quiet_step (fail))
          refine wpQuiet_nil ?_
          intro w5 hb5
          have HW5 := Lib.hid (own_call HW.out hb5)
          have HL5 := Lib.hid (thenB HLB.out hb5)
          have hz5 := HL5.out.size
          clear hb5 r1 r2 r3 r4
          go_wp2_with (at_builtin; refine wpList_append_own _ rfl (.tmp 47) (.tmp 49) 23 rfl w3.heap.size 3 i0 (.int .i64 0) 1 8 Tryd.underlying23 hi0 hz0 hz1 hz2 rfl (by decide) _ m (ntV (Plan.critL s q k)) rfl (HW5.out.alloc _) _ 1 1 [.int .i64 (k : Int)] rfl rfl (cells_here _ _ _) (by simp [Value.oneCell']) (by unfold maxLen; omega) (by omega) (by simp; omega) ?_; intro v8 w8 hown hgrow _)
          obtain ⟨g8, c8, hv8, _, _⟩ := hown.form (by omega)
          subst hv8
          have hlt8 := HW5.out.lt
          have HL8 := Lib.hid ((HL5.out.alloc hz5 (.cells #[.int .i64 (k : Int)] 3)).grown hgrow (by simp; omega) (fun j hj => (hlt8 j hj).1))
          have e8 : Plan.critL s q (k + 1) = Plan.critL s q k ++ [k] := by rw [HST.out, if_pos trivial]
          have HW8 := Lib.hid (show w8.ownsRow w3.heap.size 3 1 (.slice (some ⟨g8, 0, none⟩) (m + 1) c8) (m + 1) (ntV (Plan.critL s q (k + 1))) by rw [e8, ntV_snoc]; exact hown)
          have HM8 := Lib.hid (show (Plan.critL s q (k + 1)).length = m + 1 by rw [e8, List.length_append, HM.out]; rfl)
          clear hown hgrow hlt8 e8
          go_wp2_with fail
          go_roundw
          case rel => exact ⟨_, m + 1, c8, k + 1, rfl, by go_num, by omega, HM8, HW8, HL8⟩
          case measure => simp [intOf]; omega
        · have hsqb : (S == Q) = false := by simpa using hsq
          have HSQ := Lib.hid hsq
          clear hsq
          go_wp2_with fail
          refine wp_region_below (by kernel_rfl) (by kernel_rfl) ?_
          repeat (go_big_quiet_step (fail))
          refine wpQuiet_nil ?_
          intro w5 hb5
          have HW5 := Lib.hid (own_call HW.out hb5)
          have HL5 := Lib.hid (thenB HLB.out hb5)
          have e8 : Plan.critL s q (k + 1) = Plan.critL s q k := by rw [HST.out, if_neg HSQ.out]
          clear hb5 r1 r2 r3 r4
          go_wp2_with fail
          go_roundw
          case rel => exact ⟨_, m, c2, k + 1, rfl, by go_num, by omega, by rw [e8]; exact HM, by rw [e8]; exact HW5, HL5⟩
          case measure => simp [intOf]; omega
      · obtain rfl : n = k := by omega
        go_wp2_with fail
        go_ret2
        refine ⟨thenB HB3.out HLB.out, .inr ⟨HC.out, s, q, _, HF.out, by rw [HE.out]; exact HL.out, rfl, ?_⟩⟩
        rw [HNN.out]
        exact (IntsL.own (by rw [HM.out]; exact HW.out)).low HB3.out.size
def PathV (T : Plan) (b : Nat) (v : Value) (x : Int) (w : World) : Prop := (T.chk ≠ 0 ∧ v = .slice none 0 0 ∧ x = T.chk) ∨ (T.chk = 0 ∧ x = 0 ∧ ∃ s, Plan.Fix T s ∧ (∀ i, i < T.n → 0 ≤ s i ∧ s i ≤ 121000000) ∧ ((T.n = 0 ∧ v = .slice none 0 0) ∨ (0 < T.n ∧ ∃ out, Plan.PathL T s out ∧ IntsL w b v out.reverse)))
def CritV (T : Plan) (b : Nat) (v : Value) (x : Int) (w : World) : Prop := (T.chk ≠ 0 ∧ v = .slice none 0 0 ∧ x = T.chk) ∨ (T.chk = 0 ∧ x = 0 ∧ ∃ s q, Plan.Fix T s ∧ Plan.Latest T (Plan.last T s T.n) q ∧ IntsL w b v (Plan.critL s q T.n))
theorem PathV.call {T : Plan} {b : Nat} {v : Value} {x : Int} {w w' : World} (h : PathV T b v x w) (hb : Below w.heap.size w w') : PathV T b v x w' := by
  rcases h with h | ⟨h1, h2, s, h3, h4, h5 | ⟨h5, out, h6, h7⟩⟩
  · exact .inl h
  · exact .inr ⟨h1, h2, s, h3, h4, .inl h5⟩
  · exact .inr ⟨h1, h2, s, h3, h4, .inr ⟨h5, out, h6, h7.call hb⟩⟩
theorem CritV.call {T : Plan} {b : Nat} {v : Value} {x : Int} {w w' : World} (h : CritV T b v x w) (hb : Below w.heap.size w w') : CritV T b v x w' := by
  rcases h with h | ⟨h1, h2, s, q, h3, h4, h5⟩
  · exact .inl h
  · exact .inr ⟨h1, h2, s, q, h3, h4, h5.call hb⟩
theorem PathR.v {T : Plan} {w : World} {e : Ending} {w' : World} (h : PathR T w e w') : ∃ v x, e = .returned (.tuple #[v, errV x]) ∧ PathV T w.heap.size v x w' ∧ Below w.heap.size w w' := by
  obtain ⟨hb, ⟨h1, h2⟩ | ⟨h1, s, h2, h3, ⟨h4, h5⟩ | ⟨h4, v, out, h5, h6, h7⟩⟩⟩ := h
  · exact ⟨_, T.chk, h2, .inl ⟨h1, rfl, rfl⟩, hb⟩
  · exact ⟨_, 0, h5, .inr ⟨h1, rfl, s, h2, h3, .inl ⟨h4, rfl⟩⟩, hb⟩
  · exact ⟨_, 0, h6, .inr ⟨h1, rfl, s, h2, h3, .inr ⟨h4, out, h5, h7⟩⟩, hb⟩
theorem CritR.v {T : Plan} {w : World} {e : Ending} {w' : World} (h : CritR T w e w') : ∃ v x, e = .returned (.tuple #[v, errV x]) ∧ CritV T w.heap.size v x w' ∧ Below w.heap.size w w' := by
  obtain ⟨hb, ⟨h1, h2⟩ | ⟨h1, s, q, v, h2, h3, h4, h5⟩⟩ := h
  · exact ⟨_, T.chk, h2, .inl ⟨h1, rfl, rfl⟩, hb⟩
  · exact ⟨_, 0, h4, .inr ⟨h1, rfl, s, q, h2, h3, h5⟩, hb⟩
set_option maxHeartbeats 2000000 in
theorem plainPath_any (oa : Option Addr) (cap : Nat) (AL AU : Nat → Option Addr) (CL CU : Nat → Nat) (T : Plan) (n : Nat) (w : World) (hnn : T.n = n) (hT : ErrT w) (hn : n ≤ 9223372036854775807) (hlc : ∀ i, i < n → T.lc i ≤ 9223372036854775807 ∧ T.uc i ≤ 9223372036854775807) (hR : PlanR w oa AL AU CL CU T) :
    Calls Tryd.prog 14 #[.slice oa n cap] w fun e w' => ∃ v x, e = .returned (.tuple #[v, .int .i64 x]) ∧ PathV T w.heap.size v x w' ∧ Below w.heap.size w w' := by
  have hcall := path_any oa cap AL AU CL CU T w (by rw [hnn]; exact hn) (by rw [hnn]; exact hlc) hR
  rw [hnn] at hcall
  have HT := Lib.hid hT
  clear hT hR hlc hnn hn
  go_enter Tryd.func14, Tryd.ntmps14
  go_wp2_with fail
  refine hcall.mono ?_; intro e w1 hE
  obtain ⟨v, x, rfl, hC, hb1⟩ := hE.v
  have HC := Lib.hid hC
  have HT1 := Lib.hid (HT.out.call hb1)
  have HB1 := Lib.hid hb1
  clear hC hb1 hcall hE
  go_wp2_with fail
  refine (tell_any _ _ HT1.out).mono ?_; rintro e w2 ⟨rfl, hb2⟩
  have HC2 := Lib.hid (HC.out.call hb2)
  have HB2 := Lib.hid (thenB HB1.out hb2); clear hb2
  go_wp2_with fail
  go_ret2
  exact ⟨v, x, rfl, HC2.out, HB2.out⟩
set_option maxHeartbeats 2000000 in
theorem plainCritical_any (oa : Option Addr) (cap : Nat) (AL AU : Nat → Option Addr) (CL CU : Nat → Nat) (T : Plan) (n : Nat) (w : World) (hnn : T.n = n) (hT : ErrT w) (hn : n ≤ 9223372036854775807) (hlc : ∀ i, i < n → T.lc i ≤ 9223372036854775807 ∧ T.uc i ≤ 9223372036854775807) (hR : PlanR w oa AL AU CL CU T) :
    Calls Tryd.prog 15 #[.slice oa n cap] w fun e w' => ∃ v x, e = .returned (.tuple #[v, .int .i64 x]) ∧ CritV T w.heap.size v x w' ∧ Below w.heap.size w w' := by
  have hcall := critical_any oa cap AL AU CL CU T w (by rw [hnn]; exact hn) (by rw [hnn]; exact hlc) hR
  rw [hnn] at hcall
  have HT := Lib.hid hT
  clear hT hR hlc hnn hn
  go_enter Tryd.func15, Tryd.ntmps15
  go_wp2_with fail
  refine hcall.mono ?_; intro e w1 hE
  obtain ⟨v, x, rfl, hC, hb1⟩ := hE.v
  have HC := Lib.hid hC
  have HT1 := Lib.hid (HT.out.call hb1)
  have HB1 := Lib.hid hb1
  clear hC hb1 hcall hE
  go_wp2_with fail
  refine (tell_any _ _ HT1.out).mono ?_; rintro e w2 ⟨rfl, hb2⟩
  have HC2 := Lib.hid (HC.out.call hb2)
  have HB2 := Lib.hid (thenB HB1.out hb2); clear hb2
  go_wp2_with fail
  go_ret2
  exact ⟨v, x, rfl, HC2.out, HB2.out⟩
end Go.Proofs.YthhaopdimilmcaaDoor
