/- The document's Early and End. -/
import Derived.Test.YthhaopdimilmcaaDoorRefC
namespace Go.Proofs.YthhaopdimilmcaaDoor
open Go.RowKit
theorem IntsL.setLow {w : World} {b : Nat} {v : Value} {l : List Nat} (h : IntsL w b v l) {p : Addr} (hp : p.block < b) (u : Value) : IntsL (w.setCell p u) b v l := by
  obtain ⟨oa, cap, h1, h2, h3, h4⟩ := h
  refine ⟨oa, cap, h1, h2, h3, fun h0 => ?_⟩
  obtain ⟨g, h5, h6, h7, h8⟩ := h4 h0
  refine ⟨g, h5, h6, by simpa [World.setCell] using h7, fun j hj => ⟨?_, by rw [World.frozen?_setCell]; exact (h8 j hj).2⟩⟩
  rw [World.cell?_setCell_other _ _ _ _ (by intro e; have := congrArg Addr.block e; simp at this; omega)]
  exact (h8 j hj).1
set_option maxRecDepth 100000 in
set_option maxHeartbeats 8000000 in
theorem refEarly_any (oa : Option Addr) (cap : Nat) (AL AU : Nat → Option Addr) (CL CU : Nat → Nat) (T : Plan) (n : Nat) (w : World) (hnn : T.n = n) (hn : n ≤ 9223372036854775807) (hlc : ∀ i, i < n → T.lc i ≤ 9223372036854775807 ∧ T.uc i ≤ 9223372036854775807) (hR : PlanR w oa AL AU CL CU T) :
    Calls Tryd.prog 16 #[.slice oa n cap] w fun e w' => ∃ v x, e = .returned (.tuple #[v, .int .i64 x]) ∧ EarlyV T w.heap.size v x w' ∧ Below w.heap.size w w' := by
  have hcheck := refCheck_any oa cap AL AU CL CU T w (by rw [hnn]; exact hn) (by rw [hnn]; exact hlc) hR
  rw [hnn] at hcheck
  have HR := Lib.hid hR
  have HNN := Lib.hid hnn
  clear hR hnn hn hlc
  by_cases hc : T.chk = 0
  · have hok := Plan.chk_ok hc
    have HOK := Lib.hid hok
    have hn6 : n ≤ 60 := by rw [← HNN.out]; exact hok.size
    rw [hc] at hcheck
    have HC := Lib.hid hc
    clear hok hc
    obtain ⟨M, hM, hmake⟩ := make_spans n (by omega)
    have HM := Lib.hid hM
    clear hM
    go_enter Tryd.func16, Tryd.ntmps16
    go_wp2_with fail
    refine hcheck.mono ?_; rintro e w1 ⟨rfl, hb1⟩
    clear hcheck
    have HB1 := Lib.hid hb1
    clear hb1
    go_wp2_with fail
    have HBM := Lib.hid (HB1.out.alloc HB1.out.size (.cells M 38))
    have hcall := refOrder_any oa cap AL AU CL CU T n (w1.alloc (.cells M 38)) HNN.out (by omega) (by rw [← HNN.out]; exact HOK.out.task) (HR.out.call HBM.out)
    refine hcall.mono ?_
    clear hcall hmake
    rintro e w2 ⟨hb2, v, o, rfl, hS, hv⟩
    have hfull : o.length = T.n := by
      obtain ⟨o2, h1, h2⟩ := HOK.out.full
      have h3 := hS.length h1
      have h4 := hS.1.length_le
      omega
    have HTO := Lib.hid hS.1
    have HL := Lib.hid hfull
    have HV := Lib.hid hv
    obtain ⟨ob, cap2, rfl, _, _, _⟩ := hv
    have HV2 := Lib.hid (show IntsL w2 (w1.alloc (.cells M 38)).heap.size (.slice ob n cap2) o by have := HV.out; rwa [hfull, HNN.out] at this)
    rw [hfull, HNN.out]
    have hz1 := HB1.out.size
    have hz2 := hb2.size
    simp only [World.size_alloc] at hz2
    have hS0 : ESt T o w w1.heap.size n 0 (fun _ => 0) (fun _ => 0) w2 :=
      ⟨(OwnS.new w1 n M 38 HM.out).call hb2, Plan.EarlyAt.zero T o, fun i hi => by simp at hi, thenB HBM.out hb2, hz1⟩
    have HS0 := Lib.hid hS0
    clear hb2 hS hfull HV hS0
    go_wp2_with fail
    go_loopw [20] (fun c wr => ∃ (p : Nat) (s t : Nat → Int), c = .int .i64 (p : Int) ∧ p ≤ n ∧ Hid (ESt T o w w1.heap.size n p s t wr) ∧ Hid (IntsL wr (w1.alloc (.cells M 38)).heap.size (.slice ob n cap2) o)) (fun c _ => n - (intOf c).toNat)
    case atStart => exact ⟨0, _, _, rfl, by omega, HS0, HV2⟩
    case round =>
      clear HS0 HV2
      obtain ⟨p, s, t, rfl, hp, HS, HI⟩ := hrel
      obtain ⟨wA, rfl⟩ : ∃ wo : World, wo = wr := ⟨_, rfl⟩
      by_cases hpn : p < n
      · have hpo : p < o.length := by rw [HL.out, HNN.out]; exact hpn
        obtain ⟨g, rfl, hcell⟩ := HI.out.at hpo
        obtain ⟨i, hi⟩ : ∃ i, o.getD p 0 = i := ⟨_, rfl⟩
        have hoi : o[p]? = some i := by rw [← hi]; simp [List.getD, hpo]
        rw [hi] at hcell
        have HOI := Lib.hid hoi
        have hin : i < n := by
          have := HTO.out.lt (List.mem_of_getElem? hoi)
          rw [HNN.out] at this
          exact this
        have HIN := Lib.hid (show i < T.n by rw [HNN.out]; exact hin)
        have hlk : ∀ k, k < T.lc i → T.to i k ∈ o.take p := by
          have hpl : p < o.length := hpo
          have hsplit : o = o.take p ++ i :: o.drop (p + 1) := by
            have := List.drop_eq_getElem_cons hpl
            rw [(List.getElem?_eq_some_iff.1 hoi).2] at this
            rw [← this]; simp
          exact (HTO.out _ i _ hsplit).2.2
        have HLK := Lib.hid hlk
        clear hi hoi hpo hlk
        have i1 : (0 : Int) ≤ (i : Int) := by omega
        have i2 : (i : Int) < (n : Int) := by omega
        have hFb := Plan.mx_bd HOK.out HS.out.2.1 HIN.out (m := T.lc i) (Nat.le_refl _)
        have hst := fun (wr' : World) (h : ESt T o w w1.heap.size n p s t wr') => h.step HOK.out HTO.out HOI.out hin
        have hLb := (HOK.out.task i HIN.out).head.1
        have hsoon := fun (w' : World) (h1 : PlanR w' oa AL AU CL CU T) (h2 : OwnS w' w1.heap.size n s t) => soonest_any oa cap AL AU CL CU T n w1.heap.size n i s t w' HNN.out HOK.out hin (fun j hj => by have := HS.out.2.1.1 j (by rw [HNN.out]; exact hj); omega) (fun k hk => HS.out.2.2.1 _ (HLK.out k hk)) h1 h2
        obtain ⟨F, hF⟩ : ∃ x, Plan.mx T s i (T.lc i) = x := ⟨_, rfl⟩
        obtain ⟨L, hL⟩ : ∃ x, T.len i = x := ⟨_, rfl⟩
        rw [hF] at hFb
        rw [hL] at hLb
        simp only [hF, hL] at hst
        simp only [hF] at hsoon
        have HST := Lib.hid hst
        have HSO := Lib.hid hsoon
        have HLE := Lib.hid hL
        have hpi : (p : Int) ≤ 60 := by omega
        clear hF hL hst hsoon
        go_wp2_with (go_at_call 35; refine (HSO.out wA (HR.out.call HS.out.2.2.2.1) HS.out.1).mono ?_; rintro e w5 ⟨rfl, hb5⟩; have HS5 := Lib.hid (HS.out.call hb5); have HI5 := Lib.hid (HI.out.call hb5); obtain ⟨a, ha⟩ := (HR.out.call HS5.out.2.2.2.1).1 (by rw [HNN.out]; omega); subst ha; obtain ⟨c0, -, -, -⟩ := (HR.out.call HS5.out.2.2.2.1).at HIN.out; rw [HLE.out] at c0; obtain ⟨⟨e1, e2⟩, e3, e4⟩ := HS5.out.1.2 i hin; have hBlt := HS5.out.1.1; have HST5 := Lib.hid (HST.out w5 HS5.out); have HI6 := Lib.hid ((HI5.out.setLow (p := ⟨w1.heap.size, i * 2, none⟩) (by simp) (.int .i64 F)).setLow (p := ⟨w1.heap.size, i * 2 + 1, none⟩) (by simp) (.int .i64 (F + L))); clear hb5)
        go_roundw
        case rel => exact ⟨p + 1, _, _, by go_num, by omega, HST5, HI6⟩
        case measure => simp [intOf]; omega
      · obtain rfl : n = p := by omega
        go_wp2_with fail
        go_ret2
        refine ⟨_, 0, rfl, .inr ⟨HC.out, rfl, w1.heap.size, s, by rw [HNN.out]; rfl, HS.out.2.2.2.2, ?_, ?_, fun i hi => ?_⟩, HS.out.2.2.2.1⟩
        · rw [HNN.out]
          refine HS.out.1.congr (fun _ _ => rfl) fun i hi => HS.out.2.2.1 i ?_
          rw [List.take_of_length_le (by rw [HL.out, HNN.out]; exact Nat.le_refl _)]
          exact HTO.out.full HL.out (by rw [HNN.out]; exact hi)
        · have h1 := HS.out.2.1
          rw [← HNN.out] at h1
          exact h1.fix HTO.out HL.out
        · have := HS.out.2.1.1 i hi
          omega
  · have HC := Lib.hid hc
    have hcb : (T.chk != 0) = true := by simpa using hc
    clear hc
    go_enter Tryd.func16, Tryd.ntmps16
    go_wp2_with fail
    refine hcheck.mono ?_; rintro e w1 ⟨rfl, hb1⟩
    clear hcheck
    go_wp2_with fail
    go_ret2
    exact ⟨_, _, rfl, .inl ⟨HC.out, rfl, rfl⟩, hb1⟩
end Go.Proofs.YthhaopdimilmcaaDoor
