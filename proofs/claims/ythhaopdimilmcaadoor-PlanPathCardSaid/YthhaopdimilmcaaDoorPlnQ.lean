/- The law PlanPath. -/
import Derived.Test.YthhaopdimilmcaaDoorPlnP
namespace Go.Proofs.YthhaopdimilmcaaDoor
open Go.RowKit
theorem PathV.err {T : Plan} {b : Nat} {v : Value} {x : Int} {w : World} (h : PathV T b v x w) (hc : T.chk ≠ 0) : v = .slice none 0 0 ∧ x = T.chk := by
  rcases h with ⟨_, h⟩ | ⟨h, _⟩
  · exact h
  · exact absurd h hc
theorem PathV.ok {T : Plan} {b : Nat} {v : Value} {x : Int} {w : World} (h : PathV T b v x w) (hc : T.chk = 0) : x = 0 ∧ ∃ s, Plan.Fix T s ∧ (∀ i, i < T.n → 0 ≤ s i ∧ s i ≤ 121000000) ∧ ((T.n = 0 ∧ v = .slice none 0 0) ∨ (0 < T.n ∧ ∃ out, Plan.PathL T s out ∧ IntsL w b v out.reverse)) := by
  rcases h with ⟨h, _⟩ | ⟨_, h⟩
  · exact absurd hc h
  · exact h
theorem CritV.ok {T : Plan} {b : Nat} {v : Value} {x : Int} {w : World} (h : CritV T b v x w) (hc : T.chk = 0) : x = 0 ∧ ∃ s q, Plan.Fix T s ∧ Plan.Latest T (Plan.last T s T.n) q ∧ IntsL w b v (Plan.critL s q T.n) := by
  rcases h with ⟨h, _⟩ | ⟨_, h⟩
  · exact absurd hc h
  · exact h
/-- A path told from its beginning. -/
structure PthF (T : Plan) (s : Nat → Int) (P : List Nat) : Prop where
  lt : ∀ j, j < P.length → P.getD j 0 < T.n
  first : s (P.getD 0 0) = T.nb (P.getD 0 0)
  step : ∀ j, j + 1 < P.length → ∃ k, k < T.lc (P.getD (j + 1) 0) ∧ T.to (P.getD (j + 1) 0) k = P.getD j 0 ∧ s (P.getD j 0) + T.wait (P.getD (j + 1) 0) k = s (P.getD (j + 1) 0)
  last : s (P.getD (P.length - 1) 0) + T.len (P.getD (P.length - 1) 0) = Plan.last T s T.n
theorem rev_getD {l : List Nat} {j : Nat} (h : j < l.length) : l.reverse.getD j 0 = l.getD (l.length - 1 - j) 0 := by
  unfold List.getD
  rw [List.getElem?_reverse h]
theorem PthF.of {T : Plan} (hT : T.Ok) {s : Nat → Int} (hs : ∀ i, i < T.n → 0 ≤ s i) {out : List Nat} (h : Plan.PathL T s out) : PthF T s out.reverse := by
  have h0 := h.1.1
  have hl : out.reverse.length = out.length := List.length_reverse
  have hn : 0 < T.n := Nat.lt_of_le_of_lt (Nat.zero_le _) (h.1.lt h0)
  refine ⟨fun j hj => ?_, ?_, fun j hj => ?_, ?_⟩
  · rw [hl] at hj
    rw [rev_getD hj]
    exact h.1.lt (by omega)
  · rw [rev_getD h0]
    exact h.2.2
  · rw [hl] at hj
    rw [rev_getD hj, rev_getD (show j < out.length by omega)]
    obtain ⟨_, k, h1, h2, h3, _⟩ := h.1.2.2 (out.length - 1 - (j + 1)) (by omega)
    have e : out.length - 1 - (j + 1) + 1 = out.length - 1 - j := by omega
    rw [e] at h2 h3
    exact ⟨k, h1, h2, h3⟩
  · rw [hl, rev_getD (show out.length - 1 < out.length by omega)]
    have e : out.length - 1 - (out.length - 1) = 0 := by omega
    rw [e, h.2.1, Plan.last_amx hT hs hn]
set_option maxRecDepth 100000 in
set_option maxHeartbeats 8000000 in
theorem planPath_walk (oa : Option Addr) (cap : Nat) (AL AU : Nat → Option Addr) (CL CU : Nat → Nat) (T : Plan) (n : Nat) (w : World) (hT : ErrT w) (hnn : T.n = n) (hn : n ≤ 9223372036854775807) (hlc : ∀ i, i < n → T.lc i ≤ 9223372036854775807 ∧ T.uc i ≤ 9223372036854775807) (hR : PlanR w oa AL AU CL CU T) :
    Calls Tryd.prog 4 #[.slice oa n cap] w fun e w' => e = .returned (.bool true) ∧ Below w.heap.size w w' := by
  have HT := Lib.hid hT
  have HR := Lib.hid hR
  have HLC := Lib.hid hlc
  have HNN := Lib.hid hnn
  clear hT hR hlc hnn
  by_cases hbig : 200 < n
  · have hb : decide ((200 : Int) < (n : Int)) = true := decide_eq_true (by omega)
    go_enter Tryd.func4, Tryd.ntmps4
    go_wp2_with fail
    go_ret
    exact ⟨rfl, Below.refl _ _⟩
  have hb : decide ((200 : Int) < (n : Int)) = false := decide_eq_false (by omega)
  go_enter Tryd.func4, Tryd.ntmps4
  go_wp2_with fail
  refine (plainPath_any oa cap AL AU CL CU T n w HNN.out HT.out hn HLC.out HR.out).mono ?_
  rintro e w1 ⟨v1, x1, rfl, hV, hb1⟩
  have HV := Lib.hid hV
  have HT1 := Lib.hid (HT.out.call hb1)
  have HB1 := Lib.hid hb1
  clear hV hb1
  go_wp2_with fail
  refine (plainCheck_any oa cap AL AU CL CU T n w1 HNN.out HT1.out hn HLC.out (HR.out.call HB1.out)).mono ?_
  rintro e w2 ⟨rfl, hb2⟩
  have HV2 := Lib.hid (HV.out.call hb2)
  have HT2 := Lib.hid (HT1.out.call hb2)
  have HB2 := Lib.hid (thenB HB1.out hb2)
  clear hb2 HV
  by_cases hc : T.chk = 0
  case neg =>
    have HC := Lib.hid hc
    obtain ⟨rfl, rfl⟩ := HV2.out.err hc
    have hcb : (T.chk != 0) = true := by simpa using hc
    have hcc : (T.chk == T.chk) = true := by simp
    clear hc
    go_wp2_with fail
    go_ret
    exact ⟨rfl, HB2.out⟩
  obtain ⟨rfl, s, hF, hD, hcase⟩ := HV2.out.ok hc
  have HC := Lib.hid hc
  have HF := Lib.hid hF
  have HD := Lib.hid hD
  have HCASE := Lib.hid hcase
  have HOK := Lib.hid (Plan.chk_ok hc)
  have hn6 : n ≤ 60 := by rw [← HNN.out]; exact HOK.out.size
  rw [hc]
  clear hF hD hc HV2 hcase
  go_wp2_with fail
  refine (plainEarly_any oa cap AL AU CL CU T n w2 HNN.out HT2.out hn HLC.out (HR.out.call HB2.out)).mono ?_
  rintro e w3 ⟨v3, x3, rfl, hV3, hb3⟩
  obtain ⟨rfl, B, s2, rfl, hB, hO, hF2, hbd2⟩ := hV3.ok HC.out
  have hu := Plan.Fix.unique HOK.out.full hF2 HF.out
  rw [HNN.out] at hO hu ⊢
  have HO := Lib.hid (hO.congr (f' := s) (t' := fun i => s i + T.len i) (fun i hi => hu i hi) (fun i hi => by rw [hu i hi]))
  have HT3 := Lib.hid (HT2.out.call hb3)
  have HB3 := Lib.hid (thenB HB2.out hb3)
  have HCASE3 := Lib.hid (show (T.n = 0 ∧ v1 = .slice none 0 0) ∨ (0 < T.n ∧ ∃ out, Plan.PathL T s out ∧ IntsL w3 w.heap.size v1 out.reverse) from by
    rcases HCASE.out with h | ⟨h, out, h1, h2⟩
    · exact .inl h
    · exact .inr ⟨h, out, h1, h2.call hb3⟩)
  clear hV3 hb3 hB hO hF2 hbd2 hu HCASE
  go_wp2_with fail
  refine (plainEnd_any oa cap AL AU CL CU T n w3 HNN.out HT3.out hn HLC.out (HR.out.call HB3.out)).mono ?_
  rintro e w4 ⟨v4, x4, rfl, hV4, hb4⟩
  obtain ⟨rfl, rfl⟩ := hV4.ok HC.out HF.out
  have HO4 := Lib.hid (HO.out.call hb4)
  have HT4 := Lib.hid (HT3.out.call hb4)
  have HB4 := Lib.hid (thenB HB3.out hb4)
  have HCASE4 := Lib.hid (show (T.n = 0 ∧ v1 = .slice none 0 0) ∨ (0 < T.n ∧ ∃ out, Plan.PathL T s out ∧ IntsL w4 w.heap.size v1 out.reverse) from by
    rcases HCASE3.out with h | ⟨h, out, h1, h2⟩
    · exact .inl h
    · exact .inr ⟨h, out, h1, h2.call hb4⟩)
  obtain ⟨E, hE⟩ : ∃ x, Plan.last T s T.n = x := ⟨_, rfl⟩
  rw [hE]
  have HE := Lib.hid hE
  clear hV4 hb4 hE HO HCASE3
  go_wp2_with fail
  refine (plainCritical_any oa cap AL AU CL CU T n w4 HNN.out HT4.out hn HLC.out (HR.out.call HB4.out)).mono ?_
  rintro e w5 ⟨vc, x5, rfl, hV5, hb5⟩
  obtain ⟨rfl, s3, q, hF3, hL3, hI3⟩ := hV5.ok HC.out
  have hu3 := Plan.Fix.unique HOK.out.full hF3 HF.out
  have hlst : Plan.last T s3 T.n = Plan.last T s T.n := Plan.last_congr T.n hu3
  rw [hlst] at hL3
  have HO5 := Lib.hid (HO4.out.call hb5)
  have HB5 := Lib.hid (thenB HB4.out hb5)
  have HI := Lib.hid hI3
  have HU3 := Lib.hid hu3
  have HL3 := Lib.hid hL3
  obtain ⟨oc, cc, rfl, _, _, _⟩ := hI3
  obtain ⟨mc, hmc⟩ : ∃ x, (Plan.critL s3 q T.n).length = x := ⟨_, rfl⟩
  have hmcn := Plan.critL_len s3 q T.n
  rw [hmc] at hmcn ⊢
  rw [HNN.out] at hmcn
  have HIC := Lib.hid (show IntsL w5 w4.heap.size (.slice oc mc cc) (Plan.critL s3 q T.n) by have := HI.out; rwa [hmc] at this)
  have HMC := Lib.hid hmc
  have hcase5 : (T.n = 0 ∧ v1 = .slice none 0 0) ∨ (0 < T.n ∧ ∃ out, Plan.PathL T s out ∧ IntsL w5 w.heap.size v1 out.reverse) := by
    rcases HCASE4.out with h | ⟨h, out, h1, h2⟩
    · exact .inl h
    · exact .inr ⟨h, out, h1, h2.call hb5⟩
  clear hV5 hb5 hF3 hu3 hL3 hlst HO4 HCASE4 HI hmc
  rcases hcase5 with ⟨h0, rfl⟩ | ⟨h0, out, hP, hI⟩
  · rw [HNN.out] at h0
    subst h0
    have hE0 : E = 0 := by have h1 := HE.out; rw [HNN.out] at h1; exact h1.symm
    subst hE0
    go_wp2_with fail
    go_ret
    exact ⟨rfl, HB5.out⟩
  · rw [HNN.out] at h0
    have HPF := Lib.hid (PthF.of HOK.out (fun i hi => (HD.out i hi).1) hP)
    have hcr := hP.critical HOK.out HF.out (fun i hi => (HD.out i hi).1) HL3.out
    have HMEM := Lib.hid (show ∀ j, j < out.reverse.length → out.reverse.getD j 0 ∈ Plan.critL s3 q T.n from fun j hj => by
      rw [List.length_reverse] at hj
      have h1 := hP.1.lt (show out.length - 1 - j < out.length by omega)
      rw [rev_getD hj]
      refine (Plan.mem_critL _ _).2 ⟨h1, ?_⟩
      rw [HU3.out _ h1]
      exact hcr _ (by omega))
    have hm0 : 0 < out.reverse.length := by rw [List.length_reverse]; exact hP.1.1
    obtain ⟨P, hPE⟩ : ∃ x, out.reverse = x := ⟨_, rfl⟩
    rw [hPE] at HPF HMEM hI hm0
    have HIP := Lib.hid hI
    obtain ⟨op, cp, rfl, hl1, hl2, _⟩ := hI
    obtain ⟨M, hM⟩ : ∃ x, P.length = x + 1 := ⟨P.length - 1, by omega⟩
    unfold maxLen at hl2
    rw [hM] at hl1
    rw [hM]
    have HM := Lib.hid hM
    have HIP2 := Lib.hid (show IntsL w5 w.heap.size (.slice op (M + 1) cp) P by have := HIP.out; rwa [hM] at this)
    have hnb : ((n : Int) == 0) = false := by simp; omega
    have hM0 : ((M : Int) + 1 == 0) = false := by simp; omega
    clear hcr hP hPE hm0 hM HIP HL3 HU3
    have hp0 := HPF.out.lt 0 (by rw [HM.out]; omega)
    obtain ⟨g, rfl, -⟩ := HIP2.out.at (show 0 < P.length by rw [HM.out]; omega)
    have HPAT := Lib.hid (show ∀ w', Below w5.heap.size w5 w' → ∀ j, j < M + 1 → w'.cell? ⟨g, j, none⟩ = some (.int .i64 ((P.getD j 0 : Nat) : Int)) from fun w' hb' j hj => by
      obtain ⟨g', e, h⟩ := (HIP2.out.call hb').at (show j < P.length by rw [HM.out]; exact hj)
      simp only [Option.some.injEq, Addr.mk.injEq, and_true] at e
      rw [e]; exact h)
    have c0 := HPAT.out w5 (Below.refl _ _) 0 (by omega)
    have hfst := HPF.out.first
    obtain ⟨a, rfl⟩ := HR.out.1 (by rw [HNN.out]; omega)
    obtain ⟨-, c1, -, -⟩ := (HR.out.call HB5.out).at hp0
    obtain ⟨A0, hA0⟩ : ∃ x, P.getD 0 0 = x := ⟨_, rfl⟩
    rw [hA0] at c0 c1 hfst hp0
    rw [HNN.out] at hp0
    obtain ⟨NB, hNB⟩ : ∃ x, T.nb A0 = x := ⟨_, rfl⟩
    rw [hNB] at c1 hfst
    have HFST := Lib.hid (show NB = s (P.getD 0 0) by rw [hA0]; exact hfst.symm)
    have a1 : (0 : Int) ≤ (A0 : Int) := by omega
    have a2 : (A0 : Int) < (n : Int) := by omega
    clear hfst hA0 hNB
    go_wp2_with fail
    clear c0 c1 a1 a2 hp0
    go_loopw [11, 12] (fun x c wr => ∃ (AT : Int) (i : Nat), x = .int .i64 AT ∧ c = .int .i64 (i : Int) ∧ i ≤ M + 1 ∧ Hid (i < M + 1 → AT = s (P.getD i 0)) ∧ Hid (Below w5.heap.size w5 wr)) (fun _ c _ => M + 1 - (intOf c).toNat)
    case atStart => exact ⟨NB, 0, rfl, rfl, by omega, Lib.hid fun _ => HFST.out, Lib.hid (Below.refl _ _)⟩
    case round =>
      obtain ⟨AT, i, rfl, rfl, hi, HAT, HLB⟩ := hrel
      obtain ⟨wA, rfl⟩ : ∃ wo : World, wo = wr := ⟨_, rfl⟩
      by_cases him : i < M + 1
      · have c0 := HPAT.out wA HLB.out i him
        have ht := HPF.out.lt i (by rw [HM.out]; exact him)
        have hatE := HAT.out him
        have hmem := HMEM.out i (by rw [HM.out]; exact him)
        have hstp := fun (h : i + 1 < M + 1) => HPF.out.step i (by rw [HM.out]; exact h)
        have hnx := fun (h : i + 1 < M + 1) => HPF.out.lt (i + 1) (by rw [HM.out]; exact h)
        obtain ⟨t, htE⟩ : ∃ x, P.getD i 0 = x := ⟨_, rfl⟩
        rw [htE] at c0 ht hatE hmem
        simp only [htE] at hstp
        have hsb := HD.out t ht
        rw [HNN.out] at ht
        have hcs := ((HO5.out.call HLB.out).2 t ht).1.1
        rw [← hatE] at hcs hsb
        have HATE := Lib.hid hatE
        have HSTP := Lib.hid hstp
        have HNX := Lib.hid hnx
        have HMM := Lib.hid hmem
        have hne : (AT != AT) = false := by simp
        have t0 : ¬ (t : Int) < 0 := by omega
        have t0d : decide ((t : Int) < 0) = false := decide_eq_false (by omega)
        have t1 : decide ((n : Int) ≤ (t : Int)) = false := decide_eq_false (by omega)
        have t2 : (t : Int) < (n : Int) := by omega
        have t3 : (0 : Int) ≤ (t : Int) := by omega
        clear htE hatE hmem hstp hnx
        go_wp2_with fail
        go_loopw [14, 15] (fun b c wr => ∃ (x : Bool) (k : Nat), b = .bool x ∧ c = .int .i64 (k : Int) ∧ k ≤ mc ∧ Hid (x = true ↔ ∃ j, j < k ∧ (Plan.critL s3 q T.n).getD j 0 = t) ∧ Hid (Below w5.heap.size w5 wr)) (fun _ c _ => mc - (intOf c).toNat)
        case atStart => exact ⟨false, 0, rfl, rfl, by omega, Lib.hid ⟨fun h => (by cases h), fun ⟨j, hj, _⟩ => absurd hj (Nat.not_lt_zero j)⟩, HLB⟩
        case round =>
          obtain ⟨x, k, rfl, rfl, hk, HX, HLB2⟩ := hrel
          obtain ⟨wB, rfl⟩ : ∃ wo : World, wo = wr := ⟨_, rfl⟩
          by_cases hkm : k < mc
          · cases x with
            | true =>
              go_wp2_with fail
              go_roundw
              case rel =>
                refine ⟨true, k + 1, rfl, by go_num, by omega, Lib.hid ⟨fun _ => ?_, fun _ => rfl⟩, HLB2⟩
                obtain ⟨j, h1, h2⟩ := HX.out.1 rfl
                exact ⟨j, by omega, h2⟩
              case measure => simp [intOf]; omega
            | false =>
              obtain ⟨gc, rfl, hcc⟩ := (HIC.out.call HLB2.out).at (show k < (Plan.critL s3 q T.n).length by rw [HMC.out]; exact hkm)
              obtain ⟨C, hC⟩ : ∃ x, (Plan.critL s3 q T.n).getD k 0 = x := ⟨_, rfl⟩
              rw [hC] at hcc
              have HCE := Lib.hid hC
              clear hC
              by_cases hct : C = t
              · have hcb : ((C : Int) == (t : Int)) = true := by simp [hct]
                have HCT := Lib.hid hct
                clear hct
                go_wp2_with fail
                go_roundw
                case rel => exact ⟨true, k + 1, rfl, by go_num, by omega, Lib.hid ⟨fun _ => ⟨k, by omega, by rw [HCE.out]; exact HCT.out⟩, fun _ => rfl⟩, HLB2⟩
                case measure => simp [intOf]; omega
              · have hcb : ((C : Int) == (t : Int)) = false := by simp; omega
                have HCT := Lib.hid hct
                clear hct
                go_wp2_with fail
                go_roundw
                case rel =>
                  refine ⟨false, k + 1, rfl, by go_num, by omega, Lib.hid ⟨fun h => (by cases h), fun ⟨j, h1, h2⟩ => ?_⟩, HLB2⟩
                  by_cases e : j = k
                  · subst e; rw [HCE.out] at h2; exact absurd h2 HCT.out
                  · exact HX.out.2 ⟨j, by omega, h2⟩
                case measure => simp [intOf]; omega
          · obtain rfl : mc = k := by omega
            have hxt : x = true := HX.out.2 (by
              obtain ⟨j, h1, h2⟩ := List.getElem_of_mem HMM.out
              exact ⟨j, by rw [← HMC.out]; exact h1, by simp [List.getD, h1, h2]⟩)
            subst hxt
            by_cases hi1 : i + 1 < M + 1
            · have hi1d : decide ((i : Int) + 1 < (M : Int) + 1) = true := decide_eq_true (by omega)
              have hi2 : (i : Int) < (M : Int) := by omega
              have hi3 : (i : Int) + 1 < (M : Int) + 1 := by omega
              have hi4 : (0 : Int) ≤ (i : Int) + 1 := by omega
              have cn := HPAT.out wB HLB2.out (i + 1) hi1
              have hnx := HNX.out hi1
              have hst := HSTP.out hi1
              obtain ⟨X, hXE⟩ : ∃ x, P.getD (i + 1) 0 = x := ⟨_, rfl⟩
              rw [hXE] at cn hnx hst
              have HXT := Lib.hid hnx
              have hx3 : X < n := by rw [← HNN.out]; exact hnx
              have x1 : (0 : Int) ≤ (X : Int) := by omega
              have x2 : (X : Int) < (n : Int) := by omega
              obtain ⟨-, -, c2, -⟩ := (HR.out.call (thenB HB5.out HLB2.out)).at HXT.out
              have hlcb := (HOK.out.task X HXT.out).head.2.2.1
              obtain ⟨lc, hlcE⟩ : ∃ x, T.lc X = x := ⟨_, rfl⟩
              obtain ⟨al, hal⟩ : ∃ x, AL X = x := ⟨_, rfl⟩
              obtain ⟨cl, hcl⟩ : ∃ x, CL X = x := ⟨_, rfl⟩
              rw [hal, hlcE, hcl] at c2
              rw [hlcE] at hlcb
              have hSNb := HD.out X HXT.out
              obtain ⟨SN, hSN⟩ : ∃ x, s X = x := ⟨_, rfl⟩
              rw [hSN] at hSNb
              rw [hSN, ← HATE.out] at hst
              have HST := Lib.hid hst
              have HE2 := Lib.hid (And.intro hlcE (And.intro hal (And.intro hSN hXE)))
              clear hnx hst hlcE hal hcl hSN hXE
              go_wp2_with fail
              clear cn c2
              go_loopw [17, 18, 143] (fun wv fv c wr => ∃ (W : Int) (y : Bool) (k : Nat), wv = .int .i64 W ∧ fv = .bool y ∧ c = .int .i64 (k : Int) ∧ k ≤ lc ∧ Hid (y = true → AT + W = SN) ∧ Hid ((∃ j, j < k ∧ T.to X j = t ∧ AT + T.wait X j = SN) → y = true) ∧ Hid (Below w5.heap.size w5 wr)) (fun _ _ c _ => lc - (intOf c).toNat)
              case atStart => exact ⟨0, false, 0, rfl, rfl, rfl, by omega, Lib.hid fun h => (by cases h), Lib.hid fun ⟨j, hj, _⟩ => absurd hj (Nat.not_lt_zero j), HLB2⟩
              case round =>
                obtain ⟨W, y, k, rfl, rfl, rfl, hk, HY1, HY2, HLB3⟩ := hrel
                obtain ⟨wC, rfl⟩ : ∃ wo : World, wo = wr := ⟨_, rfl⟩
                by_cases hkl : k < lc
                · have HKL := Lib.hid (show k < T.lc X by rw [HE2.out.1]; exact hkl)
                  have HRC := Lib.hid (HR.out.call (thenB HB5.out HLB3.out))
                  have hLK := HRC.out.links HXT.out
                  rw [HE2.out.1, HE2.out.2.1] at hLK
                  obtain ⟨b, rfl⟩ := hLK.1 (by omega)
                  obtain ⟨d0, d1, d2⟩ := hLK.at hkl
                  clear hLK
                  have hXl := (HOK.out.task X HXT.out).link k HKL.out
                  obtain ⟨⟨⟨u1, u2⟩, ⟨u3, u4⟩, u5, u6⟩, -⟩ := hXl
                  have hto := (Plan.to_lt HOK.out HXT.out HKL.out).2.2
                  have hwE : T.wait X k = if T.lk X k = 1 then T.len (T.to X k) + T.lg X k else if T.lk X k = 2 then T.lg X k else if T.lk X k = 3 then T.len (T.to X k) + T.lg X k - T.len X else T.lg X k - T.len X := rfl
                  obtain ⟨e0, -, -, -⟩ := HRC.out.at (show t < T.n by rw [HNN.out]; exact ht)
                  obtain ⟨f0, -, -, -⟩ := HRC.out.at HXT.out
                  have hLTb := (HOK.out.task t (show t < T.n by rw [HNN.out]; exact ht)).head.1
                  have hLNb := (HOK.out.task X HXT.out).head.1
                  have hcs := ((HO5.out.call HLB3.out).2 X hx3).1.1
                  rw [HE2.out.2.2.1] at hcs
                  rw [hto] at d0
                  obtain ⟨z, hz⟩ : ∃ x, T.to X k = x := ⟨_, rfl⟩
                  obtain ⟨kk, hkk⟩ : ∃ x, T.lk X k = x := ⟨_, rfl⟩
                  obtain ⟨gg, hgg⟩ : ∃ x, T.lg X k = x := ⟨_, rfl⟩
                  obtain ⟨LN, hLN⟩ : ∃ x, T.len X = x := ⟨_, rfl⟩
                  obtain ⟨LT, hLT⟩ : ∃ x, T.len t = x := ⟨_, rfl⟩
                  rw [hz] at d0
                  rw [hkk] at d1 u3 u4
                  rw [hgg] at d2 u5 u6
                  rw [hLN] at f0 hLNb
                  rw [hLT] at e0 hLTb
                  rw [hz, hkk, hgg, hLN] at hwE
                  have e0b := World.block_lt_of_cell? _ _ e0
                  have f0b := World.block_lt_of_cell? _ _ f0
                  have HZ := Lib.hid hz
                  have HLT := Lib.hid hLT
                  have hSB := (HO5.out.call HLB3.out).1
                  have HLA := Lib.hid (HLB3.out.alloc HLB3.out.size (.cells #[.int .i64 (z : Int), .int .i64 kk, .int .i64 gg] 43))
                  have HW := Lib.hid hwE
                  clear hz hkk hgg hLN hLT hwE hto u1 u2
                  have hkc : kk = 1 ∨ kk = 2 ∨ kk = 3 ∨ kk = 4 := by omega
                  rcases hkc with rfl | rfl | rfl | rfl
                  · by_cases hzt : z = t
                    · have hzb : ((z : Int) == (t : Int)) = true := by simp [hzt]
                      have hwt : T.wait X k = gg + LT := by
                        rw [HW.out, hzt, HLT.out]
                        simp
                        try omega
                      have HWT := Lib.hid hwt
                      have HZT := Lib.hid (show T.to X k = t by rw [HZ.out]; exact hzt)
                      clear hzt hwt
                      by_cases he : AT + (gg + LT) = SN
                      · have heb : (AT + (gg + LT) == SN) = true := by simpa using he
                        have HE3 := Lib.hid he
                        clear he
                        go_wp2_with fail
                        go_roundw
                        case rel => exact ⟨_, true, k + 1, rfl, rfl, by go_num, by omega, Lib.hid fun _ => HE3.out, Lib.hid fun _ => rfl, HLA⟩
                        case measure => simp [intOf]; omega
                      · have heb : (AT + (gg + LT) == SN) = false := by simpa using he
                        have HE3 := Lib.hid he
                        clear he
                        go_wp2_with fail
                        go_roundw
                        case rel =>
                          refine ⟨_, y, k + 1, rfl, rfl, by go_num, by omega, HY1, Lib.hid fun ⟨j, h1, h2, h3⟩ => ?_, HLA⟩
                          by_cases e : j = k
                          · subst e; rw [HWT.out] at h3; exact absurd h3 HE3.out
                          · exact HY2.out ⟨j, by omega, h2, h3⟩
                        case measure => simp [intOf]; omega
                    · have hzb : ((z : Int) == (t : Int)) = false := by simp; omega
                      have HZT := Lib.hid (show T.to X k ≠ t by rw [HZ.out]; exact hzt)
                      clear hzt
                      go_wp2_with fail
                      go_roundw
                      case rel =>
                        refine ⟨_, y, k + 1, rfl, rfl, by go_num, by omega, HY1, Lib.hid fun ⟨j, h1, h2, h3⟩ => ?_, HLA⟩
                        by_cases e : j = k
                        · subst e; exact absurd h2 HZT.out
                        · exact HY2.out ⟨j, by omega, h2, h3⟩
                      case measure => simp [intOf]; omega
                  · by_cases hzt : z = t
                    · have hzb : ((z : Int) == (t : Int)) = true := by simp [hzt]
                      have hwt : T.wait X k = gg := by
                        rw [HW.out, hzt, HLT.out]
                        simp
                        try omega
                      have HWT := Lib.hid hwt
                      have HZT := Lib.hid (show T.to X k = t by rw [HZ.out]; exact hzt)
                      clear hzt hwt
                      by_cases he : AT + (gg) = SN
                      · have heb : (AT + (gg) == SN) = true := by simpa using he
                        have HE3 := Lib.hid he
                        clear he
                        go_wp2_with fail
                        go_roundw
                        case rel => exact ⟨_, true, k + 1, rfl, rfl, by go_num, by omega, Lib.hid fun _ => HE3.out, Lib.hid fun _ => rfl, HLA⟩
                        case measure => simp [intOf]; omega
                      · have heb : (AT + (gg) == SN) = false := by simpa using he
                        have HE3 := Lib.hid he
                        clear he
                        go_wp2_with fail
                        go_roundw
                        case rel =>
                          refine ⟨_, y, k + 1, rfl, rfl, by go_num, by omega, HY1, Lib.hid fun ⟨j, h1, h2, h3⟩ => ?_, HLA⟩
                          by_cases e : j = k
                          · subst e; rw [HWT.out] at h3; exact absurd h3 HE3.out
                          · exact HY2.out ⟨j, by omega, h2, h3⟩
                        case measure => simp [intOf]; omega
                    · have hzb : ((z : Int) == (t : Int)) = false := by simp; omega
                      have HZT := Lib.hid (show T.to X k ≠ t by rw [HZ.out]; exact hzt)
                      clear hzt
                      go_wp2_with fail
                      go_roundw
                      case rel =>
                        refine ⟨_, y, k + 1, rfl, rfl, by go_num, by omega, HY1, Lib.hid fun ⟨j, h1, h2, h3⟩ => ?_, HLA⟩
                        by_cases e : j = k
                        · subst e; exact absurd h2 HZT.out
                        · exact HY2.out ⟨j, by omega, h2, h3⟩
                      case measure => simp [intOf]; omega
                  · by_cases hzt : z = t
                    · have hzb : ((z : Int) == (t : Int)) = true := by simp [hzt]
                      have hwt : T.wait X k = gg + LT - LN := by
                        rw [HW.out, hzt, HLT.out]
                        simp
                        try omega
                      have HWT := Lib.hid hwt
                      have HZT := Lib.hid (show T.to X k = t by rw [HZ.out]; exact hzt)
                      clear hzt hwt
                      by_cases he : AT + (gg + LT - LN) = SN
                      · have heb : (AT + (gg + LT - LN) == SN) = true := by simpa using he
                        have HE3 := Lib.hid he
                        clear he
                        go_wp2_with fail
                        go_roundw
                        case rel => exact ⟨_, true, k + 1, rfl, rfl, by go_num, by omega, Lib.hid fun _ => HE3.out, Lib.hid fun _ => rfl, HLA⟩
                        case measure => simp [intOf]; omega
                      · have heb : (AT + (gg + LT - LN) == SN) = false := by simpa using he
                        have HE3 := Lib.hid he
                        clear he
                        go_wp2_with fail
                        go_roundw
                        case rel =>
                          refine ⟨_, y, k + 1, rfl, rfl, by go_num, by omega, HY1, Lib.hid fun ⟨j, h1, h2, h3⟩ => ?_, HLA⟩
                          by_cases e : j = k
                          · subst e; rw [HWT.out] at h3; exact absurd h3 HE3.out
                          · exact HY2.out ⟨j, by omega, h2, h3⟩
                        case measure => simp [intOf]; omega
                    · have hzb : ((z : Int) == (t : Int)) = false := by simp; omega
                      have HZT := Lib.hid (show T.to X k ≠ t by rw [HZ.out]; exact hzt)
                      clear hzt
                      go_wp2_with fail
                      go_roundw
                      case rel =>
                        refine ⟨_, y, k + 1, rfl, rfl, by go_num, by omega, HY1, Lib.hid fun ⟨j, h1, h2, h3⟩ => ?_, HLA⟩
                        by_cases e : j = k
                        · subst e; exact absurd h2 HZT.out
                        · exact HY2.out ⟨j, by omega, h2, h3⟩
                      case measure => simp [intOf]; omega
                  · by_cases hzt : z = t
                    · have hzb : ((z : Int) == (t : Int)) = true := by simp [hzt]
                      have hwt : T.wait X k = gg - LN := by
                        rw [HW.out, hzt, HLT.out]
                        simp
                        try omega
                      have HWT := Lib.hid hwt
                      have HZT := Lib.hid (show T.to X k = t by rw [HZ.out]; exact hzt)
                      clear hzt hwt
                      by_cases he : AT + (gg - LN) = SN
                      · have heb : (AT + (gg - LN) == SN) = true := by simpa using he
                        have HE3 := Lib.hid he
                        clear he
                        go_wp2_with fail
                        go_roundw
                        case rel => exact ⟨_, true, k + 1, rfl, rfl, by go_num, by omega, Lib.hid fun _ => HE3.out, Lib.hid fun _ => rfl, HLA⟩
                        case measure => simp [intOf]; omega
                      · have heb : (AT + (gg - LN) == SN) = false := by simpa using he
                        have HE3 := Lib.hid he
                        clear he
                        go_wp2_with fail
                        go_roundw
                        case rel =>
                          refine ⟨_, y, k + 1, rfl, rfl, by go_num, by omega, HY1, Lib.hid fun ⟨j, h1, h2, h3⟩ => ?_, HLA⟩
                          by_cases e : j = k
                          · subst e; rw [HWT.out] at h3; exact absurd h3 HE3.out
                          · exact HY2.out ⟨j, by omega, h2, h3⟩
                        case measure => simp [intOf]; omega
                    · have hzb : ((z : Int) == (t : Int)) = false := by simp; omega
                      have HZT := Lib.hid (show T.to X k ≠ t by rw [HZ.out]; exact hzt)
                      clear hzt
                      go_wp2_with fail
                      go_roundw
                      case rel =>
                        refine ⟨_, y, k + 1, rfl, rfl, by go_num, by omega, HY1, Lib.hid fun ⟨j, h1, h2, h3⟩ => ?_, HLA⟩
                        by_cases e : j = k
                        · subst e; exact absurd h2 HZT.out
                        · exact HY2.out ⟨j, by omega, h2, h3⟩
                      case measure => simp [intOf]; omega
                · obtain rfl : lc = k := by omega
                  have hyt : y = true := HY2.out (by
                    obtain ⟨j, h1, h2, h3⟩ := HST.out
                    exact ⟨j, by rw [← HE2.out.1]; exact h1, h2, h3⟩)
                  subst hyt
                  have hWS := HY1.out rfl
                  have HWS := Lib.hid hWS
                  have hW1 : -1000000000 ≤ AT + W := by omega
                  have hW2 : AT + W ≤ 1000000000 := by omega
                  clear hWS HY1 HY2
                  go_wp2_with fail
                  go_roundw
                  case rel => exact ⟨AT + W, i + 1, rfl, by go_num, by omega, Lib.hid fun _ => by rw [HE2.out.2.2.2, HE2.out.2.2.1]; exact HWS.out, HLB3⟩
                  case measure => simp [intOf]; omega
            · have hi1d : decide ((i : Int) + 1 < (M : Int) + 1) = false := decide_eq_false (by omega)
              have hi2 : ¬ (i : Int) < (M : Int) := by omega
              go_wp2_with fail
              go_roundw
              case rel => exact ⟨AT, i + 1, rfl, by go_num, by omega, Lib.hid fun h => absurd h hi1, HLB2⟩
              case measure => simp [intOf]; omega
      · obtain rfl : i = M + 1 := by omega
        have cl := HPAT.out wA HLB.out M (by omega)
        have hl := HPF.out.last
        have hlt := HPF.out.lt M (by rw [HM.out]; omega)
        rw [HM.out, Nat.add_sub_cancel, HE.out] at hl
        obtain ⟨Z, hZ⟩ : ∃ x, P.getD M 0 = x := ⟨_, rfl⟩
        rw [hZ] at cl hl hlt
        rw [HNN.out] at hlt
        have cz := ((HO5.out.call HLB.out).2 Z hlt).2.1
        simp only [hl] at cz
        have z1 : (0 : Int) ≤ (Z : Int) := by omega
        have z2 : (Z : Int) < (n : Int) := by omega
        have m1 : (0 : Int) ≤ (M : Int) := by omega
        have m2 : (M : Int) < (M : Int) + 1 := by omega
        clear hl hZ
        go_wp2_with fail
        go_ret
        exact ⟨rfl, thenB HB5.out HLB.out⟩
end Go.Proofs.YthhaopdimilmcaaDoor
