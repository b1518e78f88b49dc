/- The document's partText. -/
import Derived.Test.YtidgahnamdhflaaDoorPrtJ
import Derived.Test.YtidgahnamdhflaaDoorFldE
namespace Go.Proofs.YtidgahnamdhflaaDoor
open Go.RowKit Go.Shelf Fld Prt
theorem box3B (w : World) (s : ByteArray) (u v : Value) (t : TypeId) (wx : World) (h : Below (w.alloc (.cells #[.string s, u, v] t)).heap.size (w.alloc (.cells #[.string s, u, v] t)) wx) :
    w.heap.size < wx.heap.size ∧ wx.cell? ⟨w.heap.size, 0, none⟩ = some (.string s) ∧ wx.cell? ⟨w.heap.size, 1, none⟩ = some u ∧ wx.cell? ⟨w.heap.size, 2, none⟩ = some v :=
  three_box w s u v t wx (h.mono (by simp))
set_option maxRecDepth 100000 in
set_option maxHeartbeats 16000000 in
theorem partText_any (B : Nat) : ∀ (k : Nat) (p : Part) (u v : Value) (w : World), PartR B k w u v p → fits k p → B ≤ w.heap.size → bkP p ≤ 1048576 →
    Calls Tryd.prog 19 #[.agg #[.string p.name, u, v]] w fun e w' => e = .returned (.string ⟨(textP p).toArray⟩) ∧ Below w.heap.size w w' := by
  intro k
  induction k with
  | zero => intro p u v w _ hf; exact absurd hf (by unfold fits; exact id)
  | succ k ih =>
    intro p u v w hR hf hBw0 hz
    obtain ⟨⟨oa, ca, rfl⟩, ob, cb, rfl⟩ := hR.forms
    obtain ⟨M, hM⟩ : ∃ M, p.lines.length = M := ⟨_, rfl⟩
    obtain ⟨Q, hQ⟩ : ∃ Q, p.parts.length = Q := ⟨_, rfl⟩
    rw [hM, hQ] at hR
    rw [hM, hQ]
    obtain ⟨s, hss⟩ : ∃ s, p.name = s := ⟨_, rfl⟩
    rw [hss]
    have hsb : s.size ≤ 1048576 := by have := hz; rw [bkP_eq, hss] at this; omega
    have hMb : M ≤ 1048576 := by
      have h1 := sumB_len (f := bkL) (fun x => by unfold bkL; omega) p.lines
      have h2 := hz
      rw [bkP_eq] at h2
      omega
    have hQb : Q ≤ 1048576 := by
      have h1 := bkPs_len p.parts
      have h2 := hz
      rw [bkP_eq] at h2
      omega
    have HR := Lib.hid hR
    have HM := Lib.hid hM
    have HQ := Lib.hid hQ
    have HZ := Lib.hid hz
    have HF := Lib.hid hf
    have IH := Lib.hid ih
    have SB := Lib.hid (fun wx h => box3B w s (.slice oa M ca) (.slice ob Q cb) 25 wx h)
    have HBw := Lib.hid ((Below.refl w.heap.size w).alloc (Nat.le_refl _) (.cells #[.string s, .slice oa M ca, .slice ob Q cb] 25))
    obtain ⟨T0, hT0⟩ : ∃ T, (⟨#[66, 69, 71, 73, 78, 58]⟩ : ByteArray) ++ s = T := ⟨_, rfl⟩
    have hT0s : T0.size ≤ 1048582 := by rw [← hT0, ByteArray.size_append]; show 6 + s.size ≤ _; omega
    obtain ⟨F0, hF0⟩ : ∃ F : ByteArray, (⟨(foldL T0.data.toList).toArray⟩ : ByteArray) = F := ⟨_, rfl⟩
    have HF0 : Hid (F0.data.toList = foldL (beginL ++ p.name.data.toList)) := Lib.hid (by rw [← hF0, ← hT0, app_list, hss]; rfl)
    have CF0 : Hid (∀ w0, Calls Tryd.prog 34 #[.string T0] w0 fun e w' => e = .returned (.string F0) ∧ w0 = w') := Lib.hid fun w0 => (rfold_any T0 w0 (by omega)).mono fun e w' h => ⟨by rw [h.1, hF0], h.2.symm⟩
    obtain ⟨T9, hT9⟩ : ∃ T, (⟨#[69, 78, 68, 58]⟩ : ByteArray) ++ s = T := ⟨_, rfl⟩
    have hT9s : T9.size ≤ 1048582 := by rw [← hT9, ByteArray.size_append]; show 4 + s.size ≤ _; omega
    obtain ⟨F9, hF9⟩ : ∃ F : ByteArray, (⟨(foldL T9.data.toList).toArray⟩ : ByteArray) = F := ⟨_, rfl⟩
    have HF9 : Hid (F9.data.toList = foldL (endL ++ p.name.data.toList)) := Lib.hid (by rw [← hF9, ← hT9, app_list, hss]; rfl)
    have hF9s : F9.size ≤ 4194400 := by have h1 := foldL_len T9.data.toList; rw [len_eq] at h1; have h2 : F9.size = (foldL T9.data.toList).length := (by rw [← hF9, ← len_eq]); omega
    have CF9 : Hid (∀ w0, Calls Tryd.prog 34 #[.string T9] w0 fun e w' => e = .returned (.string F9) ∧ w0 = w') := Lib.hid fun w0 => (rfold_any T9 w0 (by omega)).mono fun e w' h => ⟨by rw [h.1, hF9], h.2.symm⟩
    have HP := Lib.hid (fun i j hi => pre_bd p i j hi)
    clear hR hM hQ hss hz hf ih hF0 hF9 hT0s hT9s
    go_enter Tryd.func19, Tryd.ntmps19
    go_upto_region 1 with fail
    obtain ⟨wB, hwB⟩ : ∃ x, w.alloc (.cells #[.string s, .slice oa M ca, .slice ob Q cb] 25) = x := ⟨_, rfl⟩
    rw [hwB] at SB HBw ⊢
    clear hwB
    have HBB : Hid (∀ wx, Below wB.heap.size wB wx → Below B w wx) := Lib.hid fun wx h => (thenB HBw.out h).mono hBw0
    obtain ⟨l0, c0, c1, c2⟩ := SB.out _ (Below.refl _ _)
    go_wp2_with (go_at_call 34; refine (CF0.out _).mono ?_; rintro e w1 ⟨rfl, rfl⟩)
    clear l0 c0 c1 c2 CF0 hT0
    go_loopw [3, 20] (fun o c wr => ∃ (i : Nat) (O : ByteArray), o = .string O ∧ c = .int .i64 (i : Int) ∧ i ≤ M ∧ Hid (O.data.toList = foldL (beginL ++ p.name.data.toList) ++ linesL p.lines i) ∧ Hid (Below wB.heap.size wB wr)) (fun _ c _ => M - (intOf c).toNat)
    case atStart => exact ⟨0, F0, rfl, rfl, by omega, Lib.hid (by unfold linesL; rw [List.append_nil]; exact HF0.out), Lib.hid (Below.refl _ _)⟩
    case round =>
      obtain ⟨i, O, rfl, rfl, hi, HO, HBr⟩ := hrel
      obtain ⟨wA, rfl⟩ : ∃ wo : World, wo = wr := ⟨_, rfl⟩
      have HWA := Lib.hid (HBB.out _ HBr.out)
      have hBs : B ≤ wA.heap.size := Nat.le_trans (Nat.le_trans hBw0 HBw.out.size) HBr.out.size
      have hOs : O.size ≤ 31457280 := by
        have h1 := HP.out i 0 (by rw [HM.out]; exact hi)
        have h2 := HZ.out
        have h3 : O.size = (foldL (beginL ++ p.name.data.toList)).length + (linesL p.lines i).length := by rw [← len_eq, HO.out, List.length_append]
        omega
      by_cases hin : i < M
      · have hil : i < p.lines.length := by rw [HM.out]; exact hin
        obtain ⟨a, rfl, hab, x0, ⟨u, x1, hU⟩, x2⟩ := (HR.out.1.call HWA.out).at hil
        have hls : linesL p.lines (i + 1) = linesL p.lines i ++ foldL (lineL (p.lines.getD i ln0)) := rfl
        have hbx : bkL (p.lines.getD i ln0) ≤ 1048576 := Nat.le_trans (sumB_at bkL ln0 p.lines i hil) (by have := HZ.out; rw [bkP_eq] at this; omega)
        obtain ⟨X, hX⟩ : ∃ X, p.lines.getD i ln0 = X := ⟨_, rfl⟩
        rw [hX] at x0 x2 hU hls hbx
        have hlb := World.block_lt_of_cell? _ _ x0
        have k1 : (0 : Int) ≤ (i : Int) := by omega
        have k2 : (i : Int) < (M : Int) := by omega
        have HLX := Lib.hid (lineL_len X)
        obtain ⟨t1, xs, t2⟩ := X
        simp only at x0 x2 hU
        obtain ⟨o1, e1, rfl, -, -⟩ := id hU
        obtain ⟨m1, hm1⟩ : ∃ y, xs.length = y := ⟨_, rfl⟩
        rw [hm1] at x1 hU
        have HU := Lib.hid hU
        have HM1 := Lib.hid hm1
        have HBX := Lib.hid hbx
        have HLS := Lib.hid hls
        have hmb : m1 ≤ 1048576 := by
          have h1 := sumB_len (f := bkX) (fun x => by unfold bkX; omega) xs
          have h2 := hbx
          unfold bkL at h2
          simp only at h2
          omega
        have hts : t1.size ≤ 1048576 ∧ t2.size ≤ 1048576 := by
          have h2 := hbx
          unfold bkL at h2
          simp only at h2
          omega
        obtain ⟨ht1, ht2⟩ := hts
        have HBA := Lib.hid ((Below.refl wA.heap.size wA).alloc (Nat.le_refl _) (.cells #[.string t1, .slice o1 m1 e1, .string t2] 64))
        have S3 := Lib.hid (fun wx h => three_box wA t1 (.slice o1 m1 e1) (.string t2) 64 wx h)
        have HKA : Hid (∀ wx, Below (wA.heap.size + 1) (wA.alloc (.cells #[.string t1, .slice o1 m1 e1, .string t2] 64)) wx → Below wA.heap.size wA wx) := Lib.hid fun wx h => HBA.out.trans (h.mono (by omega))
        clear hm1 hU hX hbx hil hls
        go_wp2_with fail
        clear x0 x1 x2 hlb
        go_loopw [6, 29] (fun o c wr => ∃ (q : Nat) (S : ByteArray), o = .string S ∧ c = .int .i64 (q : Int) ∧ q ≤ m1 ∧ Hid (S.data.toList = t1.data.toList ++ prmsL xs q) ∧ Hid (Below (wA.heap.size + 1) (wA.alloc (.cells #[.string t1, .slice o1 m1 e1, .string t2] 64)) wr)) (fun _ c _ => m1 - (intOf c).toNat)
        case atStart => exact ⟨0, t1, rfl, rfl, by omega, Lib.hid (by unfold prmsL; rw [List.append_nil]), Lib.hid (Below.refl _ _)⟩
        case round =>
          obtain ⟨q, S, rfl, rfl, hq, HS, HPr⟩ := hrel
          obtain ⟨wE, rfl⟩ : ∃ wo : World, wo = wr := ⟨_, rfl⟩
          have HAE := Lib.hid (HKA.out _ HPr.out)
          have hSs : S.size ≤ 4194304 := by
            have h1 := prmsL_len xs q (by rw [HM1.out]; exact hq)
            have h2 := sum_le bkX xs q
            have h3 := HBX.out
            have h4 : S.size = t1.size + (prmsL xs q).length := by rw [← len_eq, HS.out, List.length_append, len_eq]
            unfold bkL at h3
            simp only at h3
            omega
          by_cases hqm : q < m1
          · have hql : q < xs.length := by rw [HM1.out]; exact hqm
            obtain ⟨a2, rfl, hab2, y0, u2, y1, hV⟩ := (HU.out.call (HAE.out.mono hBs)).at hql
            have hps : prmsL xs (q + 1) = prmsL xs q ++ prmL (xs.getD q prm0) := rfl
            have hby : bkX (xs.getD q prm0) ≤ 1048576 := Nat.le_trans (sumB_at bkX prm0 xs q hql) (by have := HBX.out; unfold bkL at this; simp only at this; omega)
            obtain ⟨Y, hY⟩ : ∃ Y, xs.getD q prm0 = Y := ⟨_, rfl⟩
            rw [hY] at y0 hV hps hby
            obtain ⟨nm, vs⟩ := Y
            simp only at y0 hV
            have hlb2 := World.block_lt_of_cell? _ _ y0
            have HPS := Lib.hid hps
            have HBY := Lib.hid hby
            have k3 : (0 : Int) ≤ (q : Int) := by omega
            have k4 : (q : Int) < (m1 : Int) := by omega
            have hns : nm.size ≤ 1048576 := by have := hby; unfold bkX at this; simp only at this; omega
            obtain ⟨o3, e3, rfl, -, -⟩ := id hV
            obtain ⟨m3, hm3⟩ : ∃ y, vs.length = y := ⟨_, rfl⟩
            rw [hm3] at y1 hV
            have HV := Lib.hid hV
            have HM3 := Lib.hid hm3
            have hvb : m3 ≤ 1048576 := by
              have h1 := sumB_len (f := bkV) (fun x => by unfold bkV; omega) vs
              have h2 := hby
              unfold bkX at h2
              simp only at h2
              omega
            have HE2 := Lib.hid ((Below.refl wE.heap.size wE).alloc (Nat.le_refl _) (.cells #[.string nm, .slice o3 m3 e3] 66))
            have HP2 := Lib.hid (HPr.out.alloc (by have := HPr.out.size; simpa using this) (.cells #[.string nm, .slice o3 m3 e3] 66))
            obtain ⟨T1, hT1⟩ : ∃ T1, S ++ (⟨#[59]⟩ : ByteArray) = T1 := ⟨_, rfl⟩
            have z1 : T1.size = S.size + 1 := by rw [← hT1, ByteArray.size_append]; rfl
            obtain ⟨T2, hT2⟩ : ∃ T2, T1 ++ nm = T2 := ⟨_, rfl⟩
            have z2 : T2.size = S.size + 1 + nm.size := by rw [← hT2, ByteArray.size_append, z1]
            obtain ⟨T3, hT3⟩ : ∃ T3, T2 ++ (⟨#[61]⟩ : ByteArray) = T3 := ⟨_, rfl⟩
            have HT3 : Hid (T3.data.toList = t1.data.toList ++ prmsL xs q ++ (59 :: (nm.data.toList ++ [61]))) := Lib.hid (by rw [← hT3, app_list, ← hT2, app_list, ← hT1, app_list, HS.out]; simp)
            clear hby hY hql hV hm3 hps
            go_wp2_with fail
            obtain ⟨wG, hwG⟩ : ∃ x, wE.alloc (.cells #[.string nm, .slice o3 m3 e3] 66) = x := ⟨_, rfl⟩
            rw [hwG] at HE2 HP2 ⊢
            clear hwG y0 y1 hlb2 hT1 hT2 hT3 z1 z2
            go_loop [6, 42] (fun o c => ∃ (j : Nat) (O2 : ByteArray), o = .string O2 ∧ c = .int .i64 (j : Int) ∧ j ≤ m3 ∧ Hid (O2.data.toList = t1.data.toList ++ prmsL xs q ++ (59 :: (nm.data.toList ++ [61])) ++ valsL vs j)) (fun _ c => m3 - (intOf c).toNat)
            case atStart => exact ⟨0, T3, rfl, rfl, by omega, Lib.hid (by unfold valsL; rw [List.append_nil]; exact HT3.out)⟩
            case round =>
              obtain ⟨j, O2, rfl, rfl, hj, HO2⟩ := hrel
              by_cases hjm : j < m3
              · have hjl : j < vs.length := by rw [HM3.out]; exact hjm
                obtain ⟨d, hd0⟩ : ∃ d, o3 = some d := by
                  obtain ⟨_, _, h1, h2, -⟩ := HV.out
                  simp only [Value.slice.injEq] at h1
                  obtain ⟨rfl, -, -⟩ := h1
                  exact h2 (by omega)
                subst hd0
                have y0 := ((HV.out.call (HE2.out.mono (Nat.le_trans hBs HAE.out.size))).at hjl)
                have hbv : bkV (vs.getD j ⟨#[]⟩) ≤ 1048576 := Nat.le_trans (sumB_at bkV ⟨#[]⟩ vs j hjl) (by have := HBY.out; unfold bkX at this; simp only at this; omega)
                have hO2s : O2.size ≤ 8388608 := by
                  have h1 := prmsL_len xs q (by rw [HM1.out]; exact hq)
                  have h2 := sum_le bkX xs q
                  have h3 := HBX.out
                  have h4 : O2.size = t1.size + (prmsL xs q).length + (nm.size + 2) + (valsL vs j).length := by rw [← len_eq, HO2.out]; simp only [List.length_append, List.length_cons, List.length_nil, len_eq]
                  have h5 := valsL_len vs j (by omega)
                  have h6 := sum_le bkV vs j
                  have h7 := HBY.out
                  unfold bkL at h3
                  unfold bkX at h7
                  simp only at h3 h7
                  omega
                obtain ⟨V, hVV⟩ : ∃ V, vs.getD j ⟨#[]⟩ = V := ⟨_, rfl⟩
                rw [hVV] at y0 hbv
                have HV3 := Lib.hid hVV
                have hdb := World.block_lt_of_cell? _ _ y0
                have hVs : V.size ≤ 1048576 := by unfold bkV at hbv; omega
                have j1 : (0 : Int) ≤ (j : Int) := by omega
                have j2 : (j : Int) < (m3 : Int) := by omega
                have C44 : Hid (∀ w0, Calls Tryd.prog 35 #[.string V, .string ⟨#[44]⟩] w0 fun e w' => e = .returned (.bool (V.data.toList.any (· == 44))) ∧ w0 = w') := Lib.hid fun w0 => has_any V 44 w0 (by omega)
                have C59 : Hid (∀ w0, Calls Tryd.prog 35 #[.string V, .string ⟨#[59]⟩] w0 fun e w' => e = .returned (.bool (V.data.toList.any (· == 59))) ∧ w0 = w') := Lib.hid fun w0 => has_any V 59 w0 (by omega)
                have C58 : Hid (∀ w0, Calls Tryd.prog 35 #[.string V, .string ⟨#[58]⟩] w0 fun e w' => e = .returned (.bool (V.data.toList.any (· == 58))) ∧ w0 = w') := Lib.hid fun w0 => has_any V 58 w0 (by omega)
                have HSE := Lib.hid (special_eq V.data.toList)
                obtain ⟨V1, hV1⟩ : ∃ V1, (⟨#[34]⟩ : ByteArray) ++ V = V1 := ⟨_, rfl⟩
                have v1 : V1.size = V.size + 1 := by rw [← hV1, ByteArray.size_append, Nat.add_comm]; rfl
                obtain ⟨V2, hV2⟩ : ∃ V2, V1 ++ (⟨#[34]⟩ : ByteArray) = V2 := ⟨_, rfl⟩
                have v2 : V2.size = V.size + 2 := by rw [← hV2, ByteArray.size_append, v1]; rfl
                have HV2 : Hid (V2.data.toList = 34 :: (V.data.toList ++ [34])) := Lib.hid (by rw [← hV2, app_list, ← hV1, app_list]; rfl)
                obtain ⟨P1, hP1⟩ : ∃ P1, O2 ++ (⟨#[44]⟩ : ByteArray) = P1 := ⟨_, rfl⟩
                have p1 : P1.size = O2.size + 1 := by rw [← hP1, ByteArray.size_append]; rfl
                have HP1 : Hid (P1.data.toList = O2.data.toList ++ [44]) := Lib.hid (by rw [← hP1, app_list])
                clear hbv hVV hjl
                rcases Nat.eq_zero_or_pos j with hj0 | hj0
                · subst hj0
                  have y1 : wG.cell? d = some (.string V) := by have h := y0; simp only [Addr.add] at h; exact h
                  cases h44 : V.data.toList.any (· == 44) with
                  | true =>
                    have HSP : Hid (special V.data.toList = true) := Lib.hid (by rw [HSE.out, h44]; rfl)
                    rw [h44] at C44
                    clear h44
                    have HN2 : Hid ((O2 ++ V2).data.toList = t1.data.toList ++ prmsL xs q ++ (59 :: (nm.data.toList ++ [61])) ++ valsL vs (0 + 1)) := Lib.hid (by rw [app_list, HO2.out, HV2.out, valsL_zero vs, HV3.out, quote_yes HSP.out]; unfold valsL; rw [List.append_nil])
                    go_wp2_with (first | (go_at_call 35; with_reducible refine (C44.out _).mono ?_; rintro e w3 ⟨rfl, rfl⟩) | (go_at_call 35; with_reducible refine (C59.out _).mono ?_; rintro e w3 ⟨rfl, rfl⟩) | (go_at_call 35; with_reducible refine (C58.out _).mono ?_; rintro e w3 ⟨rfl, rfl⟩))
                    go_round
                    case rel => exact ⟨0 + 1, _, rfl, by go_num, by omega, HN2⟩
                    case measure => simp [intOf]; omega
                  | false =>
                    cases h59 : V.data.toList.any (· == 59) with
                    | true =>
                      have HSP : Hid (special V.data.toList = true) := Lib.hid (by rw [HSE.out, h44, h59]; rfl)
                      rw [h44] at C44
                      rw [h59] at C59
                      clear h44 h59
                      have HN2 : Hid ((O2 ++ V2).data.toList = t1.data.toList ++ prmsL xs q ++ (59 :: (nm.data.toList ++ [61])) ++ valsL vs (0 + 1)) := Lib.hid (by rw [app_list, HO2.out, HV2.out, valsL_zero vs, HV3.out, quote_yes HSP.out]; unfold valsL; rw [List.append_nil])
                      go_wp2_with (first | (go_at_call 35; with_reducible refine (C44.out _).mono ?_; rintro e w3 ⟨rfl, rfl⟩) | (go_at_call 35; with_reducible refine (C59.out _).mono ?_; rintro e w3 ⟨rfl, rfl⟩) | (go_at_call 35; with_reducible refine (C58.out _).mono ?_; rintro e w3 ⟨rfl, rfl⟩))
                      go_round
                      case rel => exact ⟨0 + 1, _, rfl, by go_num, by omega, HN2⟩
                      case measure => simp [intOf]; omega
                    | false =>
                      cases h58 : V.data.toList.any (· == 58) with
                      | true =>
                        have HSP : Hid (special V.data.toList = true) := Lib.hid (by rw [HSE.out, h44, h59, h58]; rfl)
                        rw [h44] at C44
                        rw [h59] at C59
                        rw [h58] at C58
                        clear h44 h59 h58
                        have HN2 : Hid ((O2 ++ V2).data.toList = t1.data.toList ++ prmsL xs q ++ (59 :: (nm.data.toList ++ [61])) ++ valsL vs (0 + 1)) := Lib.hid (by rw [app_list, HO2.out, HV2.out, valsL_zero vs, HV3.out, quote_yes HSP.out]; unfold valsL; rw [List.append_nil])
                        go_wp2_with (first | (go_at_call 35; with_reducible refine (C44.out _).mono ?_; rintro e w3 ⟨rfl, rfl⟩) | (go_at_call 35; with_reducible refine (C59.out _).mono ?_; rintro e w3 ⟨rfl, rfl⟩) | (go_at_call 35; with_reducible refine (C58.out _).mono ?_; rintro e w3 ⟨rfl, rfl⟩))
                        go_round
                        case rel => exact ⟨0 + 1, _, rfl, by go_num, by omega, HN2⟩
                        case measure => simp [intOf]; omega
                      | false =>
                        have HSP : Hid (special V.data.toList = false) := Lib.hid (by rw [HSE.out, h44, h59, h58]; rfl)
                        rw [h44] at C44
                        rw [h59] at C59
                        rw [h58] at C58
                        clear h44 h59 h58
                        have HN2 : Hid ((O2 ++ V).data.toList = t1.data.toList ++ prmsL xs q ++ (59 :: (nm.data.toList ++ [61])) ++ valsL vs (0 + 1)) := Lib.hid (by rw [app_list, HO2.out, valsL_zero vs, HV3.out, quote_no HSP.out]; unfold valsL; rw [List.append_nil])
                        go_wp2_with (first | (go_at_call 35; with_reducible refine (C44.out _).mono ?_; rintro e w3 ⟨rfl, rfl⟩) | (go_at_call 35; with_reducible refine (C59.out _).mono ?_; rintro e w3 ⟨rfl, rfl⟩) | (go_at_call 35; with_reducible refine (C58.out _).mono ?_; rintro e w3 ⟨rfl, rfl⟩))
                        go_round
                        case rel => exact ⟨0 + 1, _, rfl, by go_num, by omega, HN2⟩
                        case measure => simp [intOf]; omega
                · have hj1 : (0 : Int) < (j : Int) := by omega
                  cases h44 : V.data.toList.any (· == 44) with
                  | true =>
                    have HSP : Hid (special V.data.toList = true) := Lib.hid (by rw [HSE.out, h44]; rfl)
                    rw [h44] at C44
                    clear h44
                    have HN2 : Hid ((P1 ++ V2).data.toList = t1.data.toList ++ prmsL xs q ++ (59 :: (nm.data.toList ++ [61])) ++ valsL vs (j + 1)) := Lib.hid (by rw [app_list, HP1.out, HO2.out, HV2.out, valsL_succ vs j hj0, HV3.out, quote_yes HSP.out]; simp only [List.append_assoc])
                    go_wp2_with (first | (go_at_call 35; with_reducible refine (C44.out _).mono ?_; rintro e w3 ⟨rfl, rfl⟩) | (go_at_call 35; with_reducible refine (C59.out _).mono ?_; rintro e w3 ⟨rfl, rfl⟩) | (go_at_call 35; with_reducible refine (C58.out _).mono ?_; rintro e w3 ⟨rfl, rfl⟩))
                    go_round
                    case rel => exact ⟨j + 1, _, rfl, by go_num, by omega, HN2⟩
                    case measure => simp [intOf]; omega
                  | false =>
                    cases h59 : V.data.toList.any (· == 59) with
                    | true =>
                      have HSP : Hid (special V.data.toList = true) := Lib.hid (by rw [HSE.out, h44, h59]; rfl)
                      rw [h44] at C44
                      rw [h59] at C59
                      clear h44 h59
                      have HN2 : Hid ((P1 ++ V2).data.toList = t1.data.toList ++ prmsL xs q ++ (59 :: (nm.data.toList ++ [61])) ++ valsL vs (j + 1)) := Lib.hid (by rw [app_list, HP1.out, HO2.out, HV2.out, valsL_succ vs j hj0, HV3.out, quote_yes HSP.out]; simp only [List.append_assoc])
                      go_wp2_with (first | (go_at_call 35; with_reducible refine (C44.out _).mono ?_; rintro e w3 ⟨rfl, rfl⟩) | (go_at_call 35; with_reducible refine (C59.out _).mono ?_; rintro e w3 ⟨rfl, rfl⟩) | (go_at_call 35; with_reducible refine (C58.out _).mono ?_; rintro e w3 ⟨rfl, rfl⟩))
                      go_round
                      case rel => exact ⟨j + 1, _, rfl, by go_num, by omega, HN2⟩
                      case measure => simp [intOf]; omega
                    | false =>
                      cases h58 : V.data.toList.any (· == 58) with
                      | true =>
                        have HSP : Hid (special V.data.toList = true) := Lib.hid (by rw [HSE.out, h44, h59, h58]; rfl)
                        rw [h44] at C44
                        rw [h59] at C59
                        rw [h58] at C58
                        clear h44 h59 h58
                        have HN2 : Hid ((P1 ++ V2).data.toList = t1.data.toList ++ prmsL xs q ++ (59 :: (nm.data.toList ++ [61])) ++ valsL vs (j + 1)) := Lib.hid (by rw [app_list, HP1.out, HO2.out, HV2.out, valsL_succ vs j hj0, HV3.out, quote_yes HSP.out]; simp only [List.append_assoc])
                        go_wp2_with (first | (go_at_call 35; with_reducible refine (C44.out _).mono ?_; rintro e w3 ⟨rfl, rfl⟩) | (go_at_call 35; with_reducible refine (C59.out _).mono ?_; rintro e w3 ⟨rfl, rfl⟩) | (go_at_call 35; with_reducible refine (C58.out _).mono ?_; rintro e w3 ⟨rfl, rfl⟩))
                        go_round
                        case rel => exact ⟨j + 1, _, rfl, by go_num, by omega, HN2⟩
                        case measure => simp [intOf]; omega
                      | false =>
                        have HSP : Hid (special V.data.toList = false) := Lib.hid (by rw [HSE.out, h44, h59, h58]; rfl)
                        rw [h44] at C44
                        rw [h59] at C59
                        rw [h58] at C58
                        clear h44 h59 h58
                        have HN2 : Hid ((P1 ++ V).data.toList = t1.data.toList ++ prmsL xs q ++ (59 :: (nm.data.toList ++ [61])) ++ valsL vs (j + 1)) := Lib.hid (by rw [app_list, HP1.out, HO2.out, valsL_succ vs j hj0, HV3.out, quote_no HSP.out]; simp only [List.append_assoc])
                        go_wp2_with (first | (go_at_call 35; with_reducible refine (C44.out _).mono ?_; rintro e w3 ⟨rfl, rfl⟩) | (go_at_call 35; with_reducible refine (C59.out _).mono ?_; rintro e w3 ⟨rfl, rfl⟩) | (go_at_call 35; with_reducible refine (C58.out _).mono ?_; rintro e w3 ⟨rfl, rfl⟩))
                        go_round
                        case rel => exact ⟨j + 1, _, rfl, by go_num, by omega, HN2⟩
                        case measure => simp [intOf]; omega
              · obtain rfl : j = m3 := by omega
                have HN2 : Hid (O2.data.toList = t1.data.toList ++ prmsL xs (q + 1)) := Lib.hid (by
                  rw [HO2.out, HPS.out]
                  unfold prmL
                  simp only
                  rw [HM3.out]
                  simp)
                go_wp2_with fail
                go_roundw
                case rel => exact ⟨q + 1, O2, rfl, by go_num, by omega, HN2, HP2⟩
                case measure => simp [intOf]; omega
          · obtain rfl : q = m1 := by omega
            obtain ⟨l3, d0, d1, d2⟩ := S3.out _ HPr.out
            obtain ⟨P1, hP1⟩ : ∃ P1, S ++ (⟨#[58]⟩ : ByteArray) = P1 := ⟨_, rfl⟩
            have p1 : P1.size = S.size + 1 := by rw [← hP1, ByteArray.size_append]; rfl
            obtain ⟨P2, hP2⟩ : ∃ P2, P1 ++ t2 = P2 := ⟨_, rfl⟩
            have hP2l : P2.data.toList = lineL ⟨t1, xs, t2⟩ := by rw [← hP2, app_list, ← hP1, app_list, HS.out]; unfold lineL; simp only; rw [HM1.out]; simp
            have hP2s : P2.size ≤ 3145728 := by have h1 := HLX.out; have h2 := HBX.out; rw [← hP2l, len_eq] at h1; omega
            obtain ⟨F1, hF1⟩ : ∃ F : ByteArray, (⟨(foldL P2.data.toList).toArray⟩ : ByteArray) = F := ⟨_, rfl⟩
            have HF1 : Hid (F1.data.toList = foldL (lineL ⟨t1, xs, t2⟩)) := Lib.hid (by rw [← hF1, hP2l])
            have hF1s : F1.size ≤ 12582914 := by have h1 := foldL_len P2.data.toList; rw [len_eq] at h1; have h2 : F1.size = (foldL P2.data.toList).length := (by rw [← hF1, ← len_eq]); omega
            have CF : Hid (∀ w0, Calls Tryd.prog 34 #[.string P2] w0 fun e w' => e = .returned (.string F1) ∧ w0 = w') := Lib.hid fun w0 => (rfold_any P2 w0 (by omega)).mono fun e w' h => ⟨by rw [h.1, hF1], h.2.symm⟩
            have HN2 : Hid ((O ++ F1).data.toList = foldL (beginL ++ p.name.data.toList) ++ linesL p.lines (i + 1)) := Lib.hid (by rw [app_list, HO.out, HF1.out, HLS.out, List.append_assoc])
            clear hP2l hF1
            go_wp2_with (go_at_call 34; refine (CF.out _).mono ?_; rintro e w1 ⟨rfl, rfl⟩)
            go_roundw
            case rel => exact ⟨i + 1, _, rfl, by go_num, by omega, HN2, Lib.hid (thenB HBr.out HAE.out)⟩
            case measure => simp [intOf]; omega
      · obtain rfl : i = M := by omega
        obtain ⟨l0, c0, c1, c2⟩ := SB.out _ HBr.out
        go_wp2_with fail
        clear l0 c0 c1 c2 HWA hBs
        go_loopw [3, 81] (fun o c wr => ∃ (j : Nat) (O2 : ByteArray), o = .string O2 ∧ c = .int .i64 (j : Int) ∧ j ≤ Q ∧ Hid (O2.data.toList = foldL (beginL ++ p.name.data.toList) ++ linesL p.lines i ++ textPs (p.parts.take j)) ∧ Hid (Below wB.heap.size wB wr)) (fun _ c _ => Q - (intOf c).toNat)
        case atStart => exact ⟨0, O, rfl, rfl, by omega, Lib.hid (by rw [List.take_zero]; unfold textPs; rw [List.append_nil]; exact HO.out), HBr⟩
        case round =>
          clear HBr
          obtain ⟨j, O2, rfl, rfl, hj, HO2, HBr⟩ := hrel
          obtain ⟨wD, rfl⟩ : ∃ wo : World, wo = wr := ⟨_, rfl⟩
          have HWD := Lib.hid (HBB.out _ HBr.out)
          have hBs : B ≤ wD.heap.size := Nat.le_trans (Nat.le_trans hBw0 HBw.out.size) HBr.out.size
          have hO2s : O2.size ≤ 31457280 := by
            have h1 := HP.out i j (by rw [HM.out]; exact Nat.le_refl _)
            have h2 := HZ.out
            have h3 : O2.size = (foldL (beginL ++ p.name.data.toList)).length + (linesL p.lines i).length + (textPs (p.parts.take j)).length := by rw [← len_eq, HO2.out]; simp only [List.length_append]
            have h4 := textPs_len (p.parts.take j)
            omega
          by_cases hjq : j < Q
          · have hjl : j < p.parts.length := by rw [HQ.out]; exact hjq
            obtain ⟨a, rfl, hab, x0, u2, v2, x1, x2, hU⟩ := (HR.out.call HWD.out).at hjl
            have hts := textPs_take p.parts j hjl
            have hfi : fits k (p.parts.getD j part0) := HF.out _ (by rw [show p.parts.getD j part0 = p.parts[j] by simp [List.getD, hjl]]; exact List.getElem_mem hjl)
            have hbx : bkP (p.parts.getD j part0) ≤ 1048576 := Nat.le_trans (bkPs_at p.parts j hjl) (by have := HZ.out; rw [bkP_eq] at this; omega)
            obtain ⟨X, hX⟩ : ∃ X, p.parts.getD j part0 = X := ⟨_, rfl⟩
            rw [hX] at x0 hU hts hfi hbx
            have hlb := World.block_lt_of_cell? _ _ x0
            have k1 : (0 : Int) ≤ (j : Int) := by omega
            have k2 : (j : Int) < (Q : Int) := by omega
            obtain ⟨F1, hF1⟩ : ∃ F : ByteArray, (⟨(textP X).toArray⟩ : ByteArray) = F := ⟨_, rfl⟩
            have hF1s : F1.size ≤ 31457280 := by have h1 := textP_len X; have h2 : F1.size = (textP X).length := (by rw [← hF1, ← len_eq]); omega
            have HF1 : Hid (F1.data.toList = textP X) := Lib.hid (by rw [← hF1])
            have CW : Hid (∀ w0, Below wD.heap.size wD w0 → Calls Tryd.prog 19 #[.agg #[.string X.name, u2, v2]] w0 fun e w' => e = .returned (.string F1) ∧ Below w0.heap.size w0 w') := Lib.hid fun w0 hb => hF1 ▸ IH.out X u2 v2 w0 (hU.call (hb.mono hBs)) hfi (Nat.le_trans hBs hb.size) hbx
            obtain ⟨⟨o1, e1, rfl⟩, o2, e2, rfl⟩ := hU.forms
            obtain ⟨s1, hs1⟩ : ∃ y, X.name = y := ⟨_, rfl⟩
            obtain ⟨m1, hm1⟩ : ∃ y, X.lines.length = y := ⟨_, rfl⟩
            obtain ⟨m2, hm2⟩ : ∃ y, X.parts.length = y := ⟨_, rfl⟩
            rw [hs1, hm1, hm2] at CW
            rw [hs1] at x0
            rw [hm1] at x1
            rw [hm2] at x2
            have HTS := Lib.hid hts
            have HBA := Lib.hid ((Below.refl wD.heap.size wD).alloc (Nat.le_refl _) (.cells #[.string s1, .slice o1 m1 e1, .slice o2 m2 e2] 25))
            have HN2 : Hid ((O2 ++ F1).data.toList = foldL (beginL ++ p.name.data.toList) ++ linesL p.lines i ++ textPs (p.parts.take (j + 1))) := Lib.hid (by rw [app_list, HO2.out, HF1.out, HTS.out]; simp only [List.append_assoc])
            clear hs1 hm1 hm2 hbx hU hX hjl hts hfi hF1
            go_wp2_with (go_at_call 19; (with_reducible refine (CW.out _ HBA.out).mono ?_); rintro e w2 ⟨rfl, hb⟩; have HB4 := Lib.hid (thenB HBr.out (thenB HBA.out hb)); clear hb)
            go_roundw
            case rel => exact ⟨j + 1, _, rfl, by go_num, by omega, HN2, HB4⟩
            case measure => simp [intOf]; omega
          · obtain rfl : j = Q := by omega
            obtain ⟨l0, c0, c1, c2⟩ := SB.out _ HBr.out
            have HTE : Hid ((⟨(textP p).toArray⟩ : ByteArray) = O2 ++ F9) := Lib.hid (str_eq (by rw [app_list, HO2.out, HF9.out, textP_eq, HM.out, List.take_of_length_le (by rw [HQ.out]; exact Nat.le_refl _)])).symm
            go_wp2_with (go_at_call 34; refine (CF9.out _).mono ?_; rintro e w1 ⟨rfl, rfl⟩)
            go_ret
            exact ⟨by rw [HTE.out]; rfl, thenB HBw.out HBr.out⟩
end Go.Proofs.YtidgahnamdhflaaDoor
