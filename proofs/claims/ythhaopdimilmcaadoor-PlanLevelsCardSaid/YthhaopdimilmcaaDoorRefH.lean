/- The document's Critical. -/
import Derived.Test.YthhaopdimilmcaaDoorRefG
import Derived.Test.YthhaopdimilmcaaDoorRefL
namespace Go.Proofs.YthhaopdimilmcaaDoor
open Go.RowKit
theorem EndV.okE {T : Plan} {b : Nat} {v : Value} {x : Int} {w : World} (h : EndV T b v x w) (hc : T.chk ≠ 0) : v = .int .i64 0 ∧ x = T.chk := by
  rcases h with ⟨_, h⟩ | ⟨h, _⟩
  · exact h
  · exact absurd h hc
theorem RLateV.ok {y : Int} {T : Plan} {b : Nat} {v : Value} {x : Int} {w : World} (h : RLateV y T b v x w) (hc : T.chk = 0) {s : Nat → Int} (hs : Plan.Fix T s) (h1 : Plan.last T s T.n ≤ y) (h2 : y ≤ 1099511627776) : x = 0 ∧ ∃ q, SpansV w b v T.n q (fun i => q i + T.len i) ∧ Plan.Latest T y q := by
  rcases h with ⟨h, _⟩ | ⟨_, s2, h3, h | h | ⟨_, _, h5, h6⟩⟩
  · exact absurd hc h
  · have e := Plan.last_congr (T := T) T.n (Plan.Fix.unique (Plan.chk_ok hc).full h3 hs)
    have := h.1
    omega
  · have := h.2.1
    omega
  · exact ⟨h5, h6⟩
theorem RLateV.call {y : Int} {T : Plan} {b : Nat} {v : Value} {x : Int} {w w' : World} (h : RLateV y T b v x w) (hb : Below w.heap.size w w') : RLateV y T b v x w' := by
  rcases h with h | ⟨h1, s, h2, h | h | ⟨h3, h4, h5, q, h6, h7⟩⟩
  · exact .inl h
  · exact .inr ⟨h1, s, h2, .inl h⟩
  · exact .inr ⟨h1, s, h2, .inr (.inl h)⟩
  · exact .inr ⟨h1, s, h2, .inr (.inr ⟨h3, h4, h5, q, h6.call hb, h7⟩)⟩
set_option maxRecDepth 100000 in
set_option maxHeartbeats 8000000 in
theorem refCritical_any (oa : Option Addr) (cap : Nat) (AL AU : Nat → Option Addr) (CL CU : Nat → Nat) (T : Plan) (n : Nat) (w : World) (hnn : T.n = n) (hn : n ≤ 9223372036854775807) (hlc : ∀ i, i < n → T.lc i ≤ 9223372036854775807 ∧ T.uc i ≤ 9223372036854775807) (hR : PlanR w oa AL AU CL CU T) :
    Calls Tryd.prog 20 #[.slice oa n cap] w fun e w' => ∃ v x, e = .returned (.tuple #[v, .int .i64 x]) ∧ CritV T w.heap.size v x w' ∧ Below w.heap.size w w' := by
  have hend := refEnd_any oa cap AL AU CL CU T n w hnn hn hlc hR
  have HEA := Lib.hid (fun w' (h : PlanR w' oa AL AU CL CU T) => refEarly_any oa cap AL AU CL CU T n w' hnn hn hlc h)
  have HLA := Lib.hid (fun y w' (h : PlanR w' oa AL AU CL CU T) => refLate_any oa cap AL AU CL CU T n y w' hnn hn hlc h)
  have HR := Lib.hid hR
  have HNN := Lib.hid hnn
  clear hR hn hlc hnn
  go_enter Tryd.func20, Tryd.ntmps20
  go_wp2_with fail
  refine hend.mono ?_
  clear hend
  rintro e w1 ⟨v, x, rfl, (⟨hc, rfl, rfl⟩ | ⟨hc, rfl, s, rfl, hF, hbd⟩), hb1⟩
  · have HB1 := Lib.hid hb1
    have HC := Lib.hid hc
    have hcb : (T.chk != 0) = true := by simpa using hc
    clear hb1 hc
    go_wp2_with fail
    go_ret2
    exact ⟨_, _, rfl, .inl ⟨HC.out, rfl, rfl⟩, HB1.out⟩
  · have HB1 := Lib.hid hb1
    have HC := Lib.hid hc
    have HOK := Lib.hid (Plan.chk_ok hc)
    have HF := Lib.hid hF
    have hn6 : n ≤ 60 := by rw [← HNN.out]; exact HOK.out.size
    have hEb := last_bd HOK.out hbd T.n (Nat.le_refl _)
    obtain ⟨E, hE⟩ : ∃ x, Plan.last T s T.n = x := ⟨_, rfl⟩
    rw [hE] at hEb ⊢
    have HE := Lib.hid hE
    clear hb1 hc hF hbd hE
    go_wp2_with fail
    refine (HEA.out w1 (HR.out.call HB1.out)).mono ?_
    rintro e w2 ⟨v2, x2, rfl, hV2, hb2⟩
    obtain ⟨rfl, B, s2, rfl, hB, hO, hF2, hbd2⟩ := hV2.ok HC.out
    have HU := Lib.hid (Plan.Fix.unique HOK.out.full hF2 HF.out)
    rw [HNN.out] at hO ⊢
    have HO := Lib.hid (hO.congr (fun i hi => HU.out i (by rw [HNN.out]; exact hi)) (fun i hi => by rw [HU.out i (by rw [HNN.out]; exact hi)] : ∀ i, i < n → s2 i + T.len i = s i + T.len i))
    have HB2 := Lib.hid (thenB HB1.out hb2)
    clear hV2 hB hO hF2 hbd2 hb2
    go_wp2_with fail
    refine (HLA.out E w2 (HR.out.call HB2.out)).mono ?_
    rintro e w3 ⟨v3, x3, rfl, hV3, hb3⟩
    obtain ⟨rfl, q, ⟨oq, cq, rfl, hQ⟩, hL3⟩ := hV3.ok HC.out HF.out (by rw [HE.out]; exact Int.le_refl _) (by omega)
    rw [HNN.out] at hQ ⊢
    have HQ := Lib.hid hQ
    have HL := Lib.hid hL3
    have HO3 := Lib.hid (HO.out.call hb3)
    have HB3 := Lib.hid (thenB HB2.out hb3)
    obtain ⟨i0, hi0, hz0, hz1, hz2⟩ := info_parts int_info
    clear hV3 hQ hL3 hb3 HO
    go_wp2_with fail
    go_loopw [10, 11] (fun v c wr => ∃ (ob : Option Addr) (m c2 k : Nat), v = .slice ob m c2 ∧ c = .int .i64 (k : Int) ∧ k ≤ n ∧ Hid ((Plan.critL s q k).length = m) ∧ Hid (wr.ownsRow w3.heap.size 3 1 (.slice ob m c2) m (ntV (Plan.critL s q k))) ∧ Hid (Below w3.heap.size w3 wr)) (fun _ c _ => n - (intOf c).toNat)
    case atStart => exact ⟨none, 0, 0, 0, rfl, rfl, by omega, Lib.hid rfl, Lib.hid (World.ownsRow_nil _ _ _ _), Lib.hid (Below.refl _ _)⟩
    case round =>
      obtain ⟨ob, m, c2, k, rfl, rfl, hk, HM, HW, HLB⟩ := hrel
      obtain ⟨wA, rfl⟩ : ∃ wo : World, wo = wr := ⟨_, rfl⟩
      by_cases hkn : k < n
      · obtain ⟨BQ, hBQ, -, hQO⟩ := HQ.out (by omega)
        subst hBQ
        obtain ⟨⟨a0, _⟩, a1, _⟩ := (HO3.out.call HLB.out).2 k hkn
        obtain ⟨⟨b0, _⟩, b1, _⟩ := (hQO.call HLB.out).2 k hkn
        have hstep : Plan.critL s q (k + 1) = if s k = q k then Plan.critL s q k ++ [k] else Plan.critL s q k := rfl
        have hmk := Plan.critL_len s q k
        rw [HM.out] at hmk
        obtain ⟨S, hS⟩ : ∃ x, s k = x := ⟨_, rfl⟩
        obtain ⟨Q, hQ⟩ : ∃ x, q k = x := ⟨_, rfl⟩
        obtain ⟨L, hL⟩ : ∃ x, T.len k = x := ⟨_, rfl⟩
        rw [hS] at a0
        rw [hQ] at b0
        simp only [hS, hL] at a1
        simp only [hQ, hL] at b1
        rw [hS, hQ] at hstep
        have HST := Lib.hid hstep
        have r1 := cell_regrown a0
        have r2 := cell_regrown a1
        have r3 := cell_regrown b0
        have r4 := cell_regrown b1
        have k1 : (0 : Int) ≤ (k : Int) := by omega
        have k2 : (k : Int) < (n : Int) := by omega
        clear hS hQ hL hstep a0 a1 b0 b1 hQO
        by_cases hsq : S = Q
        · subst hsq
          go_wp2_with fail
          refine wp_region_below (by kernel_rfl) (by kernel_rfl) ?_
          repeat (go_big_quiet_step (fail))
          refine wpQuiet_nil ?_
          intro w5 hb5
          have HW5 := Lib.hid (own_call HW.out hb5)
          have HL5 := Lib.hid (thenB HLB.out hb5)
          have hz5 := HL5.out.size
          clear hb5 r1 r2 r3 r4
          go_wp2_with (at_builtin; refine wpList_append_own _ rfl (.tmp 46) (.tmp 48) 23 rfl w3.heap.size 3 i0 (.int .i64 0) 1 8 Tryd.underlying23 hi0 hz0 hz1 hz2 rfl (by decide) _ m (ntV (Plan.critL s q k)) rfl (HW5.out.alloc _) _ 1 1 [.int .i64 (k : Int)] rfl rfl (cells_here _ _ _) (by simp [Value.oneCell']) (by unfold maxLen; omega) (by omega) (by simp; omega) ?_; intro v8 w8 hown hgrow _)
          obtain ⟨g8, c8, hv8, _, _⟩ := hown.form (by omega)
          subst hv8
          have hlt8 := HW5.out.lt
          have HL8 := Lib.hid ((HL5.out.alloc hz5 (.cells #[.int .i64 (k : Int)] 3)).grown hgrow (by simp; omega) (fun j hj => (hlt8 j hj).1))
          have e8 : Plan.critL s q (k + 1) = Plan.critL s q k ++ [k] := by rw [HST.out, if_pos trivial]
          have HW8 := Lib.hid (show w8.ownsRow w3.heap.size 3 1 (.slice (some ⟨g8, 0, none⟩) (m + 1) c8) (m + 1) (ntV (Plan.critL s q (k + 1))) by rw [e8, ntV_snoc]; exact hown)
          have HM8 := Lib.hid (show (Plan.critL s q (k + 1)).length = m + 1 by rw [e8, List.length_append, HM.out]; rfl)
          clear hown hgrow hlt8 e8
          try go_wp2_with fail
          go_roundw
          case rel => exact ⟨_, m + 1, c8, k + 1, rfl, by go_num, by omega, HM8, HW8, HL8⟩
          case measure => simp [intOf]; omega
        · have hsqb : (S == Q) = false := by simpa using hsq
          have HSQ := Lib.hid hsq
          clear hsq
          go_wp2_with fail
          refine wp_region_below (by kernel_rfl) (by kernel_rfl) ?_
          repeat (go_big_quiet_step (fail))
          refine wpQuiet_nil ?_
          intro w5 hb5
          have HW5 := Lib.hid (own_call HW.out hb5)
          have HL5 := Lib.hid (thenB HLB.out hb5)
          have e8 : Plan.critL s q (k + 1) = Plan.critL s q k := by rw [HST.out, if_neg HSQ.out]
          clear hb5 r1 r2 r3 r4
          go_wp2_with fail
          go_roundw
          case rel => exact ⟨_, m, c2, k + 1, rfl, by go_num, by omega, by rw [e8]; exact HM, by rw [e8]; exact HW5, HL5⟩
          case measure => simp [intOf]; omega
      · obtain rfl : n = k := by omega
        go_wp2_with fail
        go_ret2
        refine ⟨_, 0, rfl, .inr ⟨HC.out, rfl, s, q, HF.out, by rw [HE.out]; exact HL.out, ?_⟩, thenB HB3.out HLB.out⟩
        rw [HNN.out]
        exact (IntsL.own (by rw [HM.out]; exact HW.out)).low HB3.out.size
end Go.Proofs.YthhaopdimilmcaaDoor
