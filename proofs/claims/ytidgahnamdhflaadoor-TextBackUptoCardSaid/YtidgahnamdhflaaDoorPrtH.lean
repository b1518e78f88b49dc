/- text.line: a line as a text. -/
import Derived.Test.YtidgahnamdhflaaDoorPrtF
import Derived.Test.YtidgahnamdhflaaDoorPrtG
namespace Go.Proofs.YtidgahnamdhflaaDoor
open Go.RowKit Go.Shelf Fld Prt
theorem valsL_zero (vs : List ByteArray) : valsL vs (0 + 1) = quote (vs.getD 0 ⟨#[]⟩).data.toList := rfl
theorem valsL_succ (vs : List ByteArray) (k : Nat) (h : 0 < k) : valsL vs (k + 1) = valsL vs k ++ ([44] ++ quote (vs.getD k ⟨#[]⟩).data.toList) := by
  have e : valsL vs (k + 1) = valsL vs k ++ (if k = 0 then [] else [44]) ++ quote (vs.getD k ⟨#[]⟩).data.toList := rfl
  rw [e, if_neg (by omega), List.append_assoc]
theorem app_list (a b : ByteArray) : (a ++ b).data.toList = a.data.toList ++ b.data.toList := by rw [ByteArray.data_append, Array.toList_append]
theorem quote_yes {v : List UInt8} (h : special v = true) : quote v = 34 :: (v ++ [34]) := if_pos h
theorem quote_no {v : List UInt8} (h : special v = false) : quote v = v := if_neg (by rw [h]; decide)
set_option maxRecDepth 100000 in
set_option maxHeartbeats 8000000 in
theorem line_any (B : Nat) (l : Ln) (u : Value) (w : World) (hB : B ≤ w.heap.size) (hR : VPrm B w u l.prms) (hz : bkL l ≤ 1048576) :
    Calls Tryd.prog 51 #[.agg #[.string l.name, u, .string l.value]] w fun e w' => e = .returned (.string ⟨(lineL l).toArray⟩) ∧ Below w.heap.size w w' := by
  obtain ⟨s, xs, t⟩ := l
  obtain ⟨oa, cap, rfl, -, -⟩ := id hR
  obtain ⟨n, hn⟩ : ∃ n, xs.length = n := ⟨_, rfl⟩
  simp only at hR hn ⊢
  rw [hn] at hR ⊢
  have HR := Lib.hid hR
  have HN := Lib.hid hn
  have HZ := Lib.hid hz
  have hnb : n ≤ 1048576 := by
    have h1 := sumB_len (f := bkX) (fun x => by unfold bkX; omega) xs
    have h2 := hz
    unfold bkL at h2
    simp only at h2
    omega
  have hsz : s.size ≤ 1048576 ∧ t.size ≤ 1048576 := by
    have h2 := hz
    unfold bkL at h2
    simp only at h2
    omega
  obtain ⟨hs1, ht1⟩ := hsz
  clear hR hn hz
  have HB0 := Lib.hid ((Below.refl w.heap.size w).alloc (Nat.le_refl _) (.cells #[.string s, .slice oa n cap, .string t] 64))
  obtain ⟨wB, hwB⟩ : ∃ x, w.alloc (.cells #[.string s, .slice oa n cap, .string t] 64) = x := ⟨_, rfl⟩
  have hlt : w.heap.size < wB.heap.size := by rw [← hwB]; simp
  have HQ : Hid (wB.cell? ⟨w.heap.size, 0, none⟩ = some (.string s) ∧ wB.cell? ⟨w.heap.size, 1, none⟩ = some (.slice oa n cap) ∧ wB.cell? ⟨w.heap.size, 2, none⟩ = some (.string t)) := Lib.hid (by rw [← hwB]; simp [go_sem])
  have SB : Hid (∀ wx, Below wB.heap.size wB wx → w.heap.size < wx.heap.size ∧ wx.cell? ⟨w.heap.size, 0, none⟩ = some (.string s) ∧ wx.cell? ⟨w.heap.size, 1, none⟩ = some (.slice oa n cap) ∧ wx.cell? ⟨w.heap.size, 2, none⟩ = some (.string t)) := Lib.hid fun wx hb => ⟨Nat.lt_of_lt_of_le hlt hb.size, (hb.cell (p := ⟨w.heap.size, 0, none⟩) hlt).trans HQ.out.1, (hb.cell (p := ⟨w.heap.size, 1, none⟩) hlt).trans HQ.out.2.1, (hb.cell (p := ⟨w.heap.size, 2, none⟩) hlt).trans HQ.out.2.2⟩
  have HBw : Hid (Below w.heap.size w wB) := Lib.hid (by rw [← hwB]; exact HB0.out)
  have HwB := Lib.hid hwB
  clear hlt HQ hwB
  go_enter Tryd.func51, Tryd.ntmps51
  go_wp2_with fail
  rw [HwB.out]
  go_loopw [3, 13] (fun o c wr => ∃ (i : Nat) (O : ByteArray), o = .string O ∧ c = .int .i64 (i : Int) ∧ i ≤ n ∧ Hid (O.data.toList = s.data.toList ++ prmsL xs i) ∧ Hid (Below wB.heap.size wB wr)) (fun _ c _ => n - (intOf c).toNat)
  case atStart => exact ⟨0, s, rfl, rfl, by omega, Lib.hid (by unfold prmsL; rw [List.append_nil]), Lib.hid (Below.refl _ _)⟩
  case round =>
    obtain ⟨i, O, rfl, rfl, hi, HO, HBr⟩ := hrel
    obtain ⟨wA, rfl⟩ : ∃ wo : World, wo = wr := ⟨_, rfl⟩
    have HWA := Lib.hid (thenB HBw.out HBr.out)
    have hOs : O.size ≤ 4194304 := by
      have h1 := prmsL_len xs i (by rw [HN.out]; exact hi)
      have h2 := sum_le bkX xs i
      have h3 := HZ.out
      have h4 : O.size = s.size + (prmsL xs i).length := by rw [← len_eq, HO.out, List.length_append, len_eq]
      unfold bkL at h3
      simp only at h3
      omega
    by_cases hin : i < n
    · have hil : i < xs.length := by rw [HN.out]; exact hin
      obtain ⟨a, rfl, hab, x0, u, x1, hU⟩ := (HR.out.call (HWA.out.mono hB)).at hil
      have hps : prmsL xs (i + 1) = prmsL xs i ++ prmL (xs.getD i prm0) := rfl
      have hbx : bkX (xs.getD i prm0) ≤ 1048576 := Nat.le_trans (sumB_at bkX prm0 xs i hil) (by have := HZ.out; unfold bkL at this; simp only at this; omega)
      obtain ⟨X, hX⟩ : ∃ X, xs.getD i prm0 = X := ⟨_, rfl⟩
      rw [hX] at x0 hU hps hbx
      obtain ⟨nm, vs⟩ := X
      simp only at x0 hU
      have hlb := World.block_lt_of_cell? _ _ x0
      have HPS := Lib.hid hps
      have HBX := Lib.hid hbx
      have k1 : (0 : Int) ≤ (i : Int) := by omega
      have k2 : (i : Int) < (n : Int) := by omega
      have hns : nm.size ≤ 1048576 := by have := hbx; unfold bkX at this; simp only at this; omega
      obtain ⟨ob, c2, rfl, -, -⟩ := id hU
      obtain ⟨m, hm⟩ : ∃ m, vs.length = m := ⟨_, rfl⟩
      rw [hm] at x1 hU
      have HU := Lib.hid hU
      have HM := Lib.hid hm
      have hmb : m ≤ 1048576 := by
        have h1 := sumB_len (f := bkV) (fun x => by unfold bkV; omega) vs
        have h2 := hbx
        unfold bkX at h2
        simp only at h2
        omega
      have HB2 := Lib.hid ((Below.refl wA.heap.size wA).alloc (Nat.le_refl _) (.cells #[.string nm, .slice ob m c2] 66))
      have HBr2 := Lib.hid (HBr.out.alloc HBr.out.size (.cells #[.string nm, .slice ob m c2] 66))
      clear hbx hX hil hU hm hps
      obtain ⟨T1, hT1⟩ : ∃ T1, (⟨#[59]⟩ : ByteArray) ++ nm = T1 := ⟨_, rfl⟩
      have z1 : T1.size = nm.size + 1 := by rw [← hT1, ByteArray.size_append, Nat.add_comm]; rfl
      obtain ⟨T2, hT2⟩ : ∃ T2, T1 ++ (⟨#[61]⟩ : ByteArray) = T2 := ⟨_, rfl⟩
      have z2 : T2.size = nm.size + 2 := by rw [← hT2, ByteArray.size_append, z1]; rfl
      obtain ⟨T3, hT3⟩ : ∃ T3, O ++ T2 = T3 := ⟨_, rfl⟩
      have HT3 : Hid (T3.data.toList = s.data.toList ++ prmsL xs i ++ (59 :: (nm.data.toList ++ [61]))) := Lib.hid (by rw [← hT3, app_list, HO.out, ← hT2, app_list, ← hT1, app_list]; rfl)
      go_wp2_with fail
      obtain ⟨wG, hwG⟩ : ∃ x, wA.alloc (.cells #[.string nm, .slice ob m c2] 66) = x := ⟨_, rfl⟩
      have hOL : Hid (O.data.toList = s.data.toList ++ prmsL xs i) := HO
      rw [hwG] at HB2 HBr2 ⊢
      clear hwG x0 x1 hlb hT1 hT2 hT3 z1 z2
      go_loopw [3, 26] (fun o c wr => ∃ (j : Nat) (O2 : ByteArray), o = .string O2 ∧ c = .int .i64 (j : Int) ∧ j ≤ m ∧ Hid (O2.data.toList = s.data.toList ++ prmsL xs i ++ (59 :: (nm.data.toList ++ [61])) ++ valsL vs j) ∧ Hid (Below wG.heap.size wG wr)) (fun _ c _ => m - (intOf c).toNat)
      case atStart => exact ⟨0, T3, rfl, rfl, by omega, Lib.hid (by unfold valsL; rw [List.append_nil]; exact HT3.out), Lib.hid (Below.refl _ _)⟩
      case round =>
        obtain ⟨j, O2, rfl, rfl, hj, HO2, HBq⟩ := hrel
        obtain ⟨wE, rfl⟩ : ∃ wo : World, wo = wr := ⟨_, rfl⟩
        have HWE := Lib.hid (HB2.out.trans (HBq.out.mono HB2.out.size))
        have HWF := Lib.hid (thenB HBr2.out HBq.out)
        by_cases hjm : j < m
        · have hjl : j < vs.length := by rw [HM.out]; exact hjm
          obtain ⟨d, hd0⟩ : ∃ d, ob = some d := by
            obtain ⟨_, _, h1, h2, -⟩ := HU.out
            simp only [Value.slice.injEq] at h1
            obtain ⟨rfl, -, -⟩ := h1
            exact h2 (by omega)
          subst hd0
          have y0 := ((HU.out.call (HWE.out.mono (Nat.le_trans hB HWA.out.size))).at hjl)
          have hbv : bkV (vs.getD j ⟨#[]⟩) ≤ 1048576 := Nat.le_trans (sumB_at bkV ⟨#[]⟩ vs j hjl) (by have := HBX.out; unfold bkX at this; simp only at this; omega)
          have hO2s : O2.size ≤ 8388608 := by
            have h1 := prmsL_len xs i (by rw [HN.out]; exact hi)
            have h2 := sum_le bkX xs i
            have h3 := HZ.out
            have h4 : O2.size = s.size + (prmsL xs i).length + (nm.size + 2) + (valsL vs j).length := by rw [← len_eq, HO2.out]; simp only [List.length_append, List.length_cons, List.length_nil, len_eq]
            have h5 := valsL_len vs j (by omega)
            have h6 := sum_le bkV vs j
            have h7 := HBX.out
            unfold bkL at h3
            unfold bkX at h7
            simp only at h3 h7
            omega
          obtain ⟨V, hV⟩ : ∃ V, vs.getD j ⟨#[]⟩ = V := ⟨_, rfl⟩
          rw [hV] at y0 hbv
          have HV := Lib.hid hV
          have hdb := World.block_lt_of_cell? _ _ y0
          have hVs : V.size ≤ 1048576 := by unfold bkV at hbv; omega
          have j1 : (0 : Int) ≤ (j : Int) := by omega
          have j2 : (j : Int) < (m : Int) := by omega
          have CS : Hid (∀ w0, Calls Tryd.prog 69 #[.string V, .string ⟨#[44, 59, 58]⟩] w0 fun e w' => e = .returned (.bool (special V.data.toList)) ∧ Below w0.heap.size w0 w') := Lib.hid fun w0 => special_any V w0 (by omega)
          obtain ⟨V1, hV1⟩ : ∃ V1, (⟨#[34]⟩ : ByteArray) ++ V = V1 := ⟨_, rfl⟩
          have v1 : V1.size = V.size + 1 := by rw [← hV1, ByteArray.size_append, Nat.add_comm]; rfl
          obtain ⟨V2, hV2⟩ : ∃ V2, V1 ++ (⟨#[34]⟩ : ByteArray) = V2 := ⟨_, rfl⟩
          have v2 : V2.size = V.size + 2 := by rw [← hV2, ByteArray.size_append, v1]; rfl
          have HV2 : Hid (V2.data.toList = 34 :: (V.data.toList ++ [34])) := Lib.hid (by rw [← hV2, app_list, ← hV1, app_list]; rfl)
          obtain ⟨P1, hP1⟩ : ∃ P1, O2 ++ (⟨#[44]⟩ : ByteArray) = P1 := ⟨_, rfl⟩
          have p1 : P1.size = O2.size + 1 := by rw [← hP1, ByteArray.size_append]; rfl
          have HP1 : Hid (P1.data.toList = O2.data.toList ++ [44]) := Lib.hid (by rw [← hP1, app_list])
          clear hbv hV hjl
          rcases Nat.eq_zero_or_pos j with hj0 | hj0
          · subst hj0
            have y1 : wE.cell? d = some (.string V) := by have h := y0; simp only [Addr.add] at h; exact h
            cases hsp : special V.data.toList with
            | true =>
              rw [hsp] at CS
              have HSP := Lib.hid hsp
              clear hsp
              have HN2 : Hid ((O2 ++ V2).data.toList = s.data.toList ++ prmsL xs i ++ (59 :: (nm.data.toList ++ [61])) ++ valsL vs (0 + 1)) := Lib.hid (by rw [app_list, HO2.out, HV2.out, valsL_zero vs, HV.out, quote_yes HSP.out]; unfold valsL; rw [List.append_nil])
              go_wp2_with (go_at_call 69; refine (CS.out _).mono ?_; rintro e w3 ⟨rfl, hb⟩; have HB3 := Lib.hid (thenB HBq.out hb); clear hb)
              go_roundw
              case rel => exact ⟨0 + 1, _, rfl, by go_num, by omega, HN2, HB3⟩
              case measure => simp [intOf]; omega
            | false =>
              rw [hsp] at CS
              have HSP := Lib.hid hsp
              clear hsp
              have HN2 : Hid ((O2 ++ V).data.toList = s.data.toList ++ prmsL xs i ++ (59 :: (nm.data.toList ++ [61])) ++ valsL vs (0 + 1)) := Lib.hid (by rw [app_list, HO2.out, valsL_zero vs, HV.out, quote_no HSP.out]; unfold valsL; rw [List.append_nil])
              go_wp2_with (go_at_call 69; refine (CS.out _).mono ?_; rintro e w3 ⟨rfl, hb⟩; have HB3 := Lib.hid (thenB HBq.out hb); clear hb)
              go_roundw
              case rel => exact ⟨0 + 1, _, rfl, by go_num, by omega, HN2, HB3⟩
              case measure => simp [intOf]; omega
          · cases hsp : special V.data.toList with
            | true =>
              rw [hsp] at CS
              have HSP := Lib.hid hsp
              clear hsp
              have HN2 : Hid ((P1 ++ V2).data.toList = s.data.toList ++ prmsL xs i ++ (59 :: (nm.data.toList ++ [61])) ++ valsL vs (j + 1)) := Lib.hid (by rw [app_list, HP1.out, HO2.out, HV2.out, valsL_succ vs j hj0, HV.out, quote_yes HSP.out]; simp only [List.append_assoc])
              go_wp2_with (go_at_call 69; refine (CS.out _).mono ?_; rintro e w3 ⟨rfl, hb⟩; have HB3 := Lib.hid (thenB HBq.out hb); clear hb)
              go_roundw
              case rel => exact ⟨j + 1, _, rfl, by go_num, by omega, HN2, HB3⟩
              case measure => simp [intOf]; omega
            | false =>
              rw [hsp] at CS
              have HSP := Lib.hid hsp
              clear hsp
              have HN2 : Hid ((P1 ++ V).data.toList = s.data.toList ++ prmsL xs i ++ (59 :: (nm.data.toList ++ [61])) ++ valsL vs (j + 1)) := Lib.hid (by rw [app_list, HP1.out, HO2.out, valsL_succ vs j hj0, HV.out, quote_no HSP.out]; simp only [List.append_assoc])
              go_wp2_with (go_at_call 69; refine (CS.out _).mono ?_; rintro e w3 ⟨rfl, hb⟩; have HB3 := Lib.hid (thenB HBq.out hb); clear hb)
              go_roundw
              case rel => exact ⟨j + 1, _, rfl, by go_num, by omega, HN2, HB3⟩
              case measure => simp [intOf]; omega
        · obtain rfl : j = m := by omega
          have HN2 : Hid (O2.data.toList = s.data.toList ++ prmsL xs (i + 1)) := Lib.hid (by
            rw [HO2.out, HPS.out]
            unfold prmL
            simp only
            rw [HM.out]
            simp)
          go_wp2_with fail
          go_roundw
          case rel => exact ⟨i + 1, O2, rfl, by go_num, by omega, HN2, HWF⟩
          case measure => simp [intOf]; omega
    · obtain rfl : i = n := by omega
      obtain ⟨l0, c0, c1, c2⟩ := SB.out _ HBr.out
      obtain ⟨P1, hP1⟩ : ∃ P1, O ++ (⟨#[58]⟩ : ByteArray) = P1 := ⟨_, rfl⟩
      have p1 : P1.size = O.size + 1 := by rw [← hP1, ByteArray.size_append]; rfl
      obtain ⟨P2, hP2⟩ : ∃ P2, P1 ++ t = P2 := ⟨_, rfl⟩
      have HE : Hid ((⟨(lineL ⟨s, xs, t⟩).toArray⟩ : ByteArray) = P2) := Lib.hid (str_eq (by rw [← hP2, app_list, ← hP1, app_list, HO.out]; unfold lineL; simp only; rw [HN.out]; simp)).symm
      go_wp2_with fail
      go_ret
      exact ⟨by rw [HE.out]; rfl, HWA.out⟩
end Go.Proofs.YtidgahnamdhflaaDoor
