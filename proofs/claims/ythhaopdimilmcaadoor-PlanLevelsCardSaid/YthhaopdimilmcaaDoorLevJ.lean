/- plain.PlanLevel; the law PlanEnough. -/
import Derived.Test.YthhaopdimilmcaaDoorLevI
namespace Go.Proofs.YthhaopdimilmcaaDoor
open Go.RowKit
/-- What is answered, beside the error's number. -/
def LevelV (T : Plan) (hn : Nat) (hv : Nat → Int) (b : Nat) (v : Value) (x : Int) (w : World) : Prop :=
  (T.chk ≠ 0 ∧ v = .slice none 0 0 ∧ x = T.chk) ∨ (T.chk = 0 ∧ ¬ HaveOk hn hv ∧ v = .slice none 0 0 ∧ x = 1) ∨ (T.chk = 0 ∧ HaveOk hn hv ∧ ¬ NoClash T hn hv T.n ∧ v = .slice none 0 0 ∧ x = 17) ∨
  (T.chk = 0 ∧ HaveOk hn hv ∧ NoClash T hn hv T.n ∧ x = 0 ∧ ∃ B f t z s q, v = .slice (some ⟨B, 0, none⟩) T.n T.n ∧ b ≤ B ∧ OwnS w B T.n f t ∧ Plan.Fix T s ∧ Plan.Latest T (Plan.last T s T.n) q ∧ Lev T hn hv q T.n f t z ∧ LevI T hn hv T.n f t z)
theorem LevelV.call {T : Plan} {hn : Nat} {hv : Nat → Int} {b : Nat} {v : Value} {x : Int} {w w' : World} (h : LevelV T hn hv b v x w) (hb : Below w.heap.size w w') : LevelV T hn hv b v x w' := by
  rcases h with h | h | h | ⟨h1, h2, h3, h4, B, f, t, z, s, q, h5, h6, h7, h8⟩
  · exact .inl h
  · exact .inr (.inl h)
  · exact .inr (.inr (.inl h))
  · exact .inr (.inr (.inr ⟨h1, h2, h3, h4, B, f, t, z, s, q, h5, h6, h7.call hb, h8⟩))
theorem LevelR.v {T : Plan} {hn : Nat} {hv : Nat → Int} {w : World} {e : Ending} {w' : World} (h : LevelR T hn hv w e w') : ∃ v x, e = .returned (.tuple #[v, errV x]) ∧ LevelV T hn hv w.heap.size v x w' ∧ Below w.heap.size w w' := by
  obtain ⟨hb, ⟨h1, h2⟩ | ⟨h1, h2, h3⟩ | ⟨h1, h2, h3, h4⟩ | ⟨h1, h2, h3, B, f, t, z, s, q, h4, h5⟩⟩ := h
  · exact ⟨_, T.chk, h2, .inl ⟨h1, rfl, rfl⟩, hb⟩
  · exact ⟨_, 1, h3, .inr (.inl ⟨h1, h2, rfl, rfl⟩), hb⟩
  · exact ⟨_, 17, h4, .inr (.inr (.inl ⟨h1, h2, h3, rfl, rfl⟩)), hb⟩
  · exact ⟨_, 0, h4, .inr (.inr (.inr ⟨h1, h2, h3, rfl, B, f, t, z, s, q, rfl, h5⟩)), hb⟩
set_option maxHeartbeats 2000000 in
theorem plainLevel_any (oa : Option Addr) (cap : Nat) (AL AU : Nat → Option Addr) (CL CU : Nat → Nat) (T : Plan) (n : Nat) (oh : Option Addr) (hn hc : Nat) (hv : Nat → Int) (w : World) (hnn : T.n = n) (hT : ErrT w) (hn0 : n ≤ 9223372036854775807) (hlc : ∀ i, i < n → T.lc i ≤ 9223372036854775807 ∧ T.uc i ≤ 9223372036854775807) (hh6 : hn ≤ 1000000) (hR : PlanR w oa AL AU CL CU T) (hH : IntsR w oh hn hv) :
    Calls Tryd.prog 25 #[.slice oa n cap, .slice oh hn hc] w fun e w' => ∃ v x, e = .returned (.tuple #[v, .int .i64 x]) ∧ LevelV T hn hv w.heap.size v x w' ∧ Below w.heap.size w w' := by
  have hcall := level_any oa cap AL AU CL CU T oh hn hc hv w (by rw [hnn]; exact hn0) (by rw [hnn]; exact hlc) hh6 hR hH
  rw [hnn] at hcall
  have HT := Lib.hid hT
  clear hT hR hH hlc hnn hn0
  go_enter Tryd.func25, Tryd.ntmps25
  go_wp2_with fail
  refine hcall.mono ?_; intro e w1 hE
  obtain ⟨v, x, rfl, hC, hb1⟩ := hE.v
  have HC := Lib.hid hC
  have HT1 := Lib.hid (HT.out.call hb1)
  have HB1 := Lib.hid hb1
  clear hC hb1 hcall hE
  go_wp2_with fail
  refine (tell_any _ _ HT1.out).mono ?_; rintro e w2 ⟨rfl, hb2⟩
  have HC2 := Lib.hid (HC.out.call hb2)
  have HB2 := Lib.hid (thenB HB1.out hb2); clear hb2
  go_wp2_with fail
  go_ret2
  exact ⟨v, x, rfl, HC2.out, HB2.out⟩
set_option maxRecDepth 100000 in
set_option maxHeartbeats 16000000 in
theorem planEnough_walk (oa : Option Addr) (cap : Nat) (AL AU : Nat → Option Addr) (CL CU : Nat → Nat) (T : Plan) (n : Nat) (oh : Option Addr) (hn hc : Nat) (hv : Nat → Int) (w : World) (hT : ErrT w) (hnn : T.n = n) (hn0 : n ≤ 9223372036854775807) (hlc : ∀ i, i < n → T.lc i ≤ 9223372036854775807 ∧ T.uc i ≤ 9223372036854775807) (hR : PlanR w oa AL AU CL CU T) (hhn : hn ≤ 9223372036854775807) (hH : IntsR w oh hn hv) :
    Calls Tryd.prog 7 #[.slice oa n cap, .slice oh hn hc] w fun e w' => e = .returned (.bool true) ∧ Below w.heap.size w w' := by
  have HT := Lib.hid hT
  have HR := Lib.hid hR
  have HH := Lib.hid hH
  have HLC := Lib.hid hlc
  have HNN := Lib.hid hnn
  clear hT hR hH hlc hnn
  by_cases hbig : 200 < n
  · have hb : decide ((200 : Int) < (n : Int)) = true := decide_eq_true (by omega)
    go_enter Tryd.func7, Tryd.ntmps7
    go_wp2_with fail
    go_ret
    exact ⟨rfl, Below.refl _ _⟩
  have hb : decide ((200 : Int) < (n : Int)) = false := decide_eq_false (by omega)
  by_cases hbig2 : 200 < hn
  · have hb2 : decide ((200 : Int) < (hn : Int)) = true := decide_eq_true (by omega)
    go_enter Tryd.func7, Tryd.ntmps7
    go_wp2_with fail
    go_ret
    exact ⟨rfl, Below.refl _ _⟩
  have hb2 : decide ((200 : Int) < (hn : Int)) = false := decide_eq_false (by omega)
  go_enter Tryd.func7, Tryd.ntmps7
  go_wp2_with fail
  refine (plainLevel_any oa cap AL AU CL CU T n oh hn hc hv w HNN.out HT.out hn0 HLC.out (by omega) HR.out HH.out).mono ?_
  rintro e w1 ⟨v, x, rfl, hV, hb1⟩
  have HT1 := Lib.hid (HT.out.call hb1)
  have HR1 := Lib.hid (HR.out.call hb1)
  have HB1 := Lib.hid hb1
  clear hb1
  have herr : (x ≠ 0 ∧ v = .slice none 0 0) ∨ (x = 0 ∧ T.chk = 0 ∧ HaveOk hn hv ∧ NoClash T hn hv T.n ∧ ∃ B f t z, v = .slice (some ⟨B, 0, none⟩) T.n T.n ∧ OwnS w1 B T.n f t ∧ LevI T hn hv T.n f t z) := by
    rcases hV with ⟨h1, h2, h3⟩ | ⟨_, _, h2, h3⟩ | ⟨_, _, _, h2, h3⟩ | ⟨h1, h2, h3, h4, B, f, t, z, s, q, h5, h6, h7, h8, h9, h10, h11⟩
    · exact .inl ⟨by rw [h3]; exact h1, h2⟩
    · exact .inl ⟨by rw [h3]; decide, h2⟩
    · exact .inl ⟨by rw [h3]; decide, h2⟩
    · exact .inr ⟨h4, h1, h2, h3, B, f, t, z, h5, h7, h11⟩
  clear hV
  rcases herr with ⟨hx, rfl⟩ | ⟨rfl, hchk, hhv, hnc, B, f, t, z, rfl, hO, hI⟩
  · have hd : (x != 0) = true := by simpa using hx
    clear hx
    go_wp2_with fail
    go_ret
    exact ⟨rfl, HB1.out⟩
  have HC := Lib.hid hchk
  have HOK := Lib.hid (Plan.chk_ok hchk)
  have hn6 : n ≤ 60 := by rw [← HNN.out]; exact HOK.out.size
  have HHV := Lib.hid hhv
  have HI := Lib.hid hI
  have HFE := Lib.hid hI.feasible
  have HO := Lib.hid (show OwnS w1 B n f (fun i => f i + T.len i) from by
    rw [HNN.out] at hO
    exact hO.congr (fun _ _ => rfl) (fun i hi => by
      have h1 := hI.done i (by rw [HNN.out]; exact hi)
      exact (hI.bd i (by rw [HNN.out]; exact hi) h1).2.2))
  have HFB := Lib.hid (show ∀ i, i < n → 0 ≤ f i ∧ f i ≤ 180000000 from fun i hi => by
    have h0 : i < T.n := by rw [HNN.out]; exact hi
    have h1 := hI.bd i h0 (hI.done i h0)
    have h2 : T.n ≤ 60 := by rw [HNN.out]; exact hn6
    omega)
  have h88 : hn ≤ 8 := hhv.1
  rw [HNN.out]
  clear hchk hhv hnc hO hI
  go_wp2_with fail
  refine (plainEarly_any oa cap AL AU CL CU T n w1 HNN.out HT1.out hn0 HLC.out HR1.out).mono ?_
  rintro e w2 ⟨v2, x2, rfl, hV2, hb2⟩
  obtain ⟨rfl, B2, s, rfl, -, hS, hF, -⟩ := hV2.ok HC.out
  have HLE := Lib.hid (show ∀ i, i < n → s i ≤ f i from fun i hi => hF.least HOK.out.full HFE.out i (by rw [HNN.out]; exact hi))
  have HS2 := Lib.hid hS
  have HO2 := Lib.hid (HO.out.call hb2)
  have HR2 := Lib.hid (HR1.out.call hb2)
  have HB2 := Lib.hid (thenB HB1.out hb2)
  rw [HNN.out]
  clear hV2 hS hF hb2
  go_wp2_with (go_at_call 11; refine (fits_yes oa cap AL AU CL CU T n B n f w2 HNN.out HOK.out HFE.out (fun i hi => by have := HFB.out i hi; omega) HR2.out HO2.out).mono ?_; rintro e w3 ⟨rfl, hb3⟩; have HO3 := Lib.hid (HO2.out.call hb3); have HS3 := Lib.hid (HS2.out.call hb3); have HB3 := Lib.hid (thenB HB2.out hb3); have hb23 := Lib.hid hb3; clear hb3)
  go_loopw [9] (fun c wr => ∃ i : Nat, c = .int .i64 (i : Int) ∧ i ≤ n ∧ Hid (Below w3.heap.size w3 wr)) (fun c _ => n - (intOf c).toNat)
  case atStart => exact ⟨0, rfl, by omega, Lib.hid (Below.refl _ _)⟩
  case round =>
    obtain ⟨i, rfl, hi, HLB⟩ := hrel
    obtain ⟨wA, rfl⟩ : ∃ wo : World, wo = wr := ⟨_, rfl⟩
    by_cases hin : i < n
    · obtain ⟨⟨a0, _⟩, _, _⟩ := (HO3.out.call HLB.out).2 i hin
      obtain ⟨⟨b0, _⟩, _, _⟩ := (HS3.out.call HLB.out).2 i (by rw [HNN.out]; exact hin)
      have hle := HLE.out i hin
      have hBl := (HO3.out.call HLB.out).1
      have hB2l := (HS3.out.call HLB.out).1
      obtain ⟨F, hF⟩ : ∃ x, f i = x := ⟨_, rfl⟩
      obtain ⟨S, hS⟩ : ∃ x, s i = x := ⟨_, rfl⟩
      rw [hF] at a0 hle
      rw [hS] at b0 hle
      have HF := Lib.hid hF
      have d1 : decide (F < S) = false := decide_eq_false (by omega)
      have i1 : (0 : Int) ≤ (i : Int) := by omega
      have i2 : (i : Int) < (n : Int) := by omega
      clear hF hS hle
      go_wp2_with fail
      go_quiet (fail)
      go_wp2_with fail
      clear a0 b0 hBl hB2l
      go_loopw [10] (fun c wr => ∃ r : Nat, c = .int .i64 (r : Int) ∧ r ≤ hn ∧ Hid (Below w3.heap.size w3 wr)) (fun c _ => hn - (intOf c).toNat)
      case atStart => exact ⟨0, rfl, by omega, Lib.hid (thenB HLB.out (by with_reducible first | exact below_drew (Below.refl _ _) | exact below_drewN (Below.refl _ _) _))⟩
      case round =>
        obtain ⟨r, rfl, hr, HLB2⟩ := hrel
        obtain ⟨wB, rfl⟩ : ∃ wo : World, wo = wr := ⟨_, rfl⟩
        by_cases hrh : r < hn
        · go_wp2_with fail
          go_loopw [11, 12] (fun m c wr => ∃ (M : Int) (k : Nat), m = .int .i64 M ∧ c = .int .i64 (k : Int) ∧ k ≤ n ∧ Hid (M = lay T f t z r F 0 k) ∧ Hid (Below w3.heap.size w3 wr)) (fun _ c _ => n - (intOf c).toNat)
          case atStart => exact ⟨0, 0, rfl, rfl, by omega, Lib.hid rfl, HLB2⟩
          case round =>
            clear HLB2
            obtain ⟨M, k, rfl, rfl, hk, HM, HLB2⟩ := hrel
            obtain ⟨wC, rfl⟩ : ∃ wo : World, wo = wr := ⟨_, rfl⟩
            by_cases hkn : k < n
            · have HIN := Lib.hid (show k < T.n by rw [HNN.out]; exact hkn)
              obtain ⟨⟨a0, _⟩, _, _⟩ := (HO3.out.call HLB2.out).2 i hin
              obtain ⟨⟨s0, _⟩, s1, _⟩ := (HO3.out.call HLB2.out).2 k hkn
              have hBl := (HO3.out.call HLB2.out).1
              have HRC := Lib.hid (HR2.out.call (thenB hb23.out HLB2.out))
              obtain ⟨a, rfl⟩ := HRC.out.1 (by rw [HNN.out]; omega)
              obtain ⟨c0, c1, c2, c3⟩ := HRC.out.at HIN.out
              have hab := World.block_lt_of_cell? _ _ c0
              have hbd := lay_bd (fun j r => use_bd HOK.out j r) f t z r F 0 (by omega) k
              rw [← HM.out] at hbd
              have htk := (HI.out.bd k HIN.out (HI.out.done k HIN.out)).2.2
              have hzk := HI.out.done k HIN.out
              have hstep : lay T f t z r F 0 (k + 1) = if Act f t z F k then lay T f t z r F 0 k + T.use k r else lay T f t z r F 0 k := rfl
              rw [← HM.out] at hstep
              have hUI := HRC.out.ints HIN.out
              have husb := use_bd HOK.out k r
              have huse := Plan.use_lt HIN.out r
              obtain ⟨FK, hFK⟩ : ∃ x, f k = x := ⟨_, rfl⟩
              obtain ⟨TK, hTK⟩ : ∃ x, f k + T.len k = x := ⟨_, rfl⟩
              have HACT := Lib.hid (show Act f t z F k ↔ FK ≤ F ∧ F < TK from by rw [← hFK, ← hTK, ← htk]; exact ⟨fun h => h.2, fun h => ⟨hzk, h⟩⟩)
              have HST := Lib.hid hstep
              rw [hFK] at s0
              simp only [hTK] at s1
              rw [HF.out] at a0
              obtain ⟨uc, hucE⟩ : ∃ x, T.uc k = x := ⟨_, rfl⟩
              obtain ⟨au, hau⟩ : ∃ x, AU k = x := ⟨_, rfl⟩
              obtain ⟨cu, hcu⟩ : ∃ x, CU k = x := ⟨_, rfl⟩
              obtain ⟨U, hU⟩ : ∃ x, T.use k r = x := ⟨_, rfl⟩
              rw [hau, hucE, hcu] at c3
              rw [hau, hucE] at hUI
              rw [hU] at husb huse
              rw [hucE] at huse
              have HU := Lib.hid hU
              have HUS := Lib.hid huse
              have i1 : (0 : Int) ≤ (i : Int) := by omega
              have i2 : (i : Int) < (n : Int) := by omega
              have k1 : (0 : Int) ≤ (k : Int) := by omega
              have k2 : (k : Int) < (n : Int) := by omega
              clear c0 c1 c2 htk hzk hstep huse hFK hTK hucE hau hcu hU
              by_cases h1 : FK ≤ F
              · have d1 : decide (FK ≤ F) = true := decide_eq_true h1
                by_cases h2 : F < TK
                · have d2 : decide (F < TK) = true := decide_eq_true h2
                  have HST2 := Lib.hid (show lay T f t z r F 0 (k + 1) = M + U by rw [HST.out, if_pos (HACT.out.2 ⟨h1, h2⟩), HU.out])
                  clear h1 h2
                  by_cases h3 : r < uc
                  · have d3 : decide ((r : Int) < (uc : Int)) = true := decide_eq_true (by omega)
                    obtain ⟨ub, rfl⟩ := hUI.1 (by omega)
                    have cu0 := hUI.at h3
                    have hub := World.block_lt_of_cell? _ _ cu0
                    have hUe := HUS.out
                    rw [if_pos h3] at hUe
                    rw [← hUe] at cu0
                    have r1 : (0 : Int) ≤ (r : Int) := by omega
                    have r2 : (r : Int) < (uc : Int) := by omega
                    clear hUI hUe
                    go_wp2_with fail
                    go_quiet (fail)
                    go_wp2_with fail
                    go_roundw
                    case rel => exact ⟨M + U, k + 1, by go_num, by go_num, by omega, Lib.hid HST2.out.symm, Lib.hid (thenB HLB2.out (by with_reducible first | exact below_drew (Below.refl _ _) | exact below_drewN (Below.refl _ _) _))⟩
                    case measure => simp [intOf]; omega
                  · have d3 : decide ((r : Int) < (uc : Int)) = false := decide_eq_false (by omega)
                    have hU0 : U = 0 := by have := HUS.out; rw [if_neg h3] at this; exact this
                    have HST3 := Lib.hid (show lay T f t z r F 0 (k + 1) = M by rw [HST2.out, hU0]; omega)
                    clear hUI hU0 HST2 HUS
                    go_wp2_with fail
                    go_quiet (fail)
                    go_wp2_with fail
                    go_roundw
                    case rel => exact ⟨M, k + 1, rfl, by go_num, by omega, Lib.hid HST3.out.symm, Lib.hid (thenB HLB2.out (by with_reducible first | exact below_drew (Below.refl _ _) | exact below_drewN (Below.refl _ _) _))⟩
                    case measure => simp [intOf]; omega
                · have d2 : decide (F < TK) = false := decide_eq_false h2
                  have HST3 := Lib.hid (show lay T f t z r F 0 (k + 1) = M by rw [HST.out, if_neg (fun h => h2 (HACT.out.1 h).2)])
                  clear hUI h1 h2
                  go_wp2_with fail
                  go_quiet (fail)
                  go_wp2_with fail
                  go_roundw
                  case rel => exact ⟨M, k + 1, rfl, by go_num, by omega, Lib.hid HST3.out.symm, Lib.hid (thenB HLB2.out (by with_reducible first | exact below_drew (Below.refl _ _) | exact below_drewN (Below.refl _ _) _))⟩
                  case measure => simp [intOf]; omega
              · have d1 : decide (FK ≤ F) = false := decide_eq_false h1
                have HST3 := Lib.hid (show lay T f t z r F 0 (k + 1) = M by rw [HST.out, if_neg (fun h => h1 (HACT.out.1 h).1)])
                clear hUI h1
                go_wp2_with fail
                go_quiet (fail)
                go_wp2_with fail
                go_roundw
                case rel => exact ⟨M, k + 1, rfl, by go_num, by omega, Lib.hid HST3.out.symm, Lib.hid (thenB HLB2.out (by with_reducible first | exact below_drew (Below.refl _ _) | exact below_drewN (Below.refl _ _) _))⟩
                case measure => simp [intOf]; omega
            · obtain rfl : n = k := by omega
              have hen := HI.out.enough r hrh F
              rw [HNN.out, ← HM.out] at hen
              have HHC := HH.out.call (thenB HB3.out HLB2.out)
              obtain ⟨bh, rfl⟩ := HHC.1 (by omega)
              have chh := HHC.at hrh
              have hbb := World.block_lt_of_cell? _ _ chh
              obtain ⟨V, hV⟩ : ∃ x, hv r = x := ⟨_, rfl⟩
              rw [hV] at chh hen
              have d1 : decide (V < M) = false := decide_eq_false (by omega)
              have r1 : (0 : Int) ≤ (r : Int) := by omega
              have r2 : (r : Int) < (hn : Int) := by omega
              clear HHC hV hen
              go_wp2_with fail
              go_roundw
              case rel => exact ⟨r + 1, by go_num, by omega, HLB2⟩
              case measure => simp [intOf]; omega
        · obtain rfl : hn = r := by omega
          go_wp2_with fail
          go_roundw
          case rel => exact ⟨i + 1, by go_num, by omega, HLB2⟩
          case measure => simp [intOf]; omega
    · obtain rfl : n = i := by omega
      go_wp2_with fail
      go_ret
      exact ⟨rfl, thenB HB3.out HLB.out⟩
end Go.Proofs.YthhaopdimilmcaaDoor
