/- The document's TimesOf. -/
import Derived.Test.YtbmndenopgkpoaaDoorBsyJ
import Derived.Deep.RegionHeld3
namespace Go.Proofs.YtbmndenopgkpoaaDoor
open Go.RowKit Wrk Go.Shelf
theorem One.drew {w : World} {Z : Nat} {v : Value} (h : One w Z v) : One w.drew Z v := ⟨by rw [World.cell?_drew]; exact h.1, by simp [h.2]⟩
set_option maxRecDepth 100000 in
set_option maxHeartbeats 16000000 in
theorem rof_any (v0 : Value) (l : List Iv) (w : World) (h0 : IvS w v0 l) (hl : l.length ≤ 100000) : Calls Tryd.prog 6 #[v0] w (TimP (foldD [] (clipL l)) w) := by
  obtain ⟨ob, cap, rfl, -, hR⟩ := h0
  obtain ⟨n, hn⟩ : ∃ n, l.length = n := ⟨_, rfl⟩
  have HN := Lib.hid hn
  rw [hn] at hl ⊢
  obtain ⟨wC, hwC⟩ : ∃ W, (w.alloc (.cells #[.slice none 0 0] 36)).alloc (.cells #[.slice none 0 0] 36) = W := ⟨_, rfl⟩
  obtain ⟨z, hz⟩ : ∃ z, w.heap.size = z := ⟨_, rfl⟩
  obtain ⟨w1, hw1⟩ : ∃ W, w.alloc (.cells #[.slice none 0 0] 36) = W := ⟨_, rfl⟩
  have hwC' := hwC
  rw [hw1] at hwC'
  have e1 : w1.heap.size = z + 1 := by rw [← hw1, ← hz]; simp
  have o1 : One w1 z (.slice none 0 0) := by rw [← hw1, ← hz]; exact One.new _ _ _
  have o2 : One wC (z + 1) (.slice none 0 0) := by rw [← hwC', ← e1]; exact One.new _ _ _
  have bwC : Below (z + 1) w1 wC := by rw [← hwC']; exact (Below.refl _ _).alloc (by omega) _
  have bw1 : Below z w w1 := by rw [← hw1, ← hz]; exact (Below.refl _ _).alloc (Nat.le_refl _) _
  have HR0 : Hid (One wC z (.slice none 0 0)) := Lib.hid (o1.call bwC (by omega))
  have HT0 : Hid (One wC (z + 1) (.slice none 0 0)) := Lib.hid o2
  have HSC : Hid (wC.heap.size = z + 2) := Lib.hid (by rw [← hwC']; simp [e1])
  have HBC : Hid (Below z w wC) := Lib.hid (bw1.trans (bwC.mono (by omega)))
  have HI : Hid (∀ w', Below z w w' → IvR w' ob l) := Lib.hid fun w' hb => hR.call (by rw [hz]; exact hb)
  have HZ := Lib.hid hz
  clear hn hR o1 o2 bwC bw1 hwC' e1 hw1
  go_enter Tryd.func6, Tryd.ntmps6
  go_upto_region 3 with fail
  try simp only [hwC, hz]
  clear hwC hz
  go_loopw [4] (fun c wr => ∃ (k : Nat) (v : Value), c = .int .i64 (k : Int) ∧ k ≤ n ∧ Hid (One wr (z + 1) v) ∧ Hid (IvL wr (z + 2) v (foldD [] (clipL (l.take k)))) ∧ Hid (One wr z (.slice none 0 0)) ∧ Hid (Below z w wr) ∧ Hid (z + 2 ≤ wr.heap.size)) (fun c _ => n - (intOf c).toNat)
  case atStart => exact ⟨0, _, rfl, by omega, HT0, Lib.hid (IvL.nil _ _), HR0, HBC, Lib.hid (by rw [HSC.out]; exact Nat.le_refl _)⟩
  case round =>
    obtain ⟨k, v, rfl, hk, HT, HV, HRB, HB, HS⟩ := hrel
    by_cases hkn : k < n
    · have hkl : k < l.length := by rw [HN.out]; exact hkn
      have hri := HI.out wr HB.out
      obtain ⟨a, rfl⟩ : ∃ a, ob = some a := hri.1 (by omega)
      obtain ⟨c0, c1⟩ := hri.at hkl
      have hst := clipL_take (iv_get hkl)
      obtain ⟨X, hX⟩ : ∃ x, (l.getD k iv0).1 = x := ⟨_, rfl⟩
      obtain ⟨Y, hY⟩ : ∃ x, (l.getD k iv0).2 = x := ⟨_, rfl⟩
      rw [hX] at c0
      rw [hY] at c1
      rw [hX, hY] at hst
      have HST := Lib.hid hst
      have hab := World.block_lt_of_cell? _ _ c0
      have hab1 := World.block_lt_of_cell? _ _ c1
      have hcl : ∀ (n : Int) (w : World), Calls Tryd.prog 16 #[.int .i64 n] w fun e w' => e = .returned (.int .i64 (clipM n)) ∧ w' = w := fun n w => (rclip_any n w).mono fun e w' h => ⟨h.1, h.2.symm⟩
      obtain ⟨CX, hcx⟩ : ∃ x, clipM X = x := ⟨_, rfl⟩
      obtain ⟨CY, hcy⟩ : ∃ x, clipM Y = x := ⟨_, rfl⟩
      have hclx := hcl X
      have hcly := hcl Y
      rw [hcx] at hclx
      rw [hcy] at hcly
      rw [hcx, hcy] at HST
      have HCX := Lib.hid hclx
      have HCY := Lib.hid hcly
      have k1 : (k : Int) < (n : Int) := by omega
      have k2 : (0 : Int) ≤ (k : Int) := by omega
      clear hst hcl hclx hcly hcx hcy hX hY hri
      obtain ⟨wA, rfl⟩ : ∃ wo : World, wo = wr := ⟨_, rfl⟩
      go_upto_region 5 with fail
      go_cut [5] from 12 to 24 (fun q wx => q = .pointer (some ⟨wA.heap.size, 0, none⟩) ∧ wx = (wA.alloc (.cells #[.int .i64 CX, .int .i64 CY] 55)).drew)
      case first =>
        have S01 : Hid (∀ wx, Below wA.heap.size wA wx → wx.cell? (a.add (k * 2)) = some (.int .i64 X) ∧ wx.cell? { block := (a.add (k * 2)).block, off := (a.add (k * 2)).off + 1 } = some (.int .i64 Y)) := Lib.hid fun wx hb => ⟨(hb.cell hab).trans c0, (hb.cell (p := { block := (a.add (k * 2)).block, off := (a.add (k * 2)).off + 1 }) hab1).trans c1⟩
        clear c0 c1 hab hab1
        go_region_held3 (fun w' => w'.cell? (a.add (k * 2)) = some (.int .i64 X) ∧ w'.cell? { block := (a.add (k * 2)).block, off := (a.add (k * 2)).off + 1 } = some (.int .i64 Y)) (first | with_reducible exact S01.out _ (Below.refl _ _) | with_reducible exact S01.out _ (below_drew (Below.refl _ _)) | with_reducible exact S01.out _ ((Below.refl _ _).alloc (Nat.le_refl _) _) | with_reducible exact S01.out _ ((below_drew (Below.refl _ _)).alloc (Nat.le_refl _) _) | with_reducible exact S01.out _ (below_drew ((Below.refl _ _).alloc (Nat.le_refl _) _))) (first | (go_at_call_of 16 (Value.int .i64 X); refine (HCX.out _).mono ?_; rintro e w' ⟨rfl, hw'⟩; subst hw') | (go_at_call_of 16 (Value.int .i64 Y); refine (HCY.out _).mono ?_; rintro e w' ⟨rfl, hw'⟩; subst hw'))
        all_goals (go_wp2_with fail; go_meet; exact ⟨rfl, rfl⟩)
      case rest =>
        obtain ⟨rfl, hwx⟩ := hcut
        have hbX : Below wA.heap.size wA wc := by rw [hwx]; exact below_drew ((Below.refl _ _).alloc (Nat.le_refl _) _)
        have hPX : PB wc wA.heap.size CX CY := by rw [hwx]; exact (PB.new wA CX CY).call (below_drew (Below.refl (wA.heap.size + 1) _)) (Nat.lt_succ_self _)
        have hsX : wA.heap.size < wc.heap.size := World.block_lt_of_cell? _ _ hPX.c0
        have HSg := Lib.hid HS.out
        have HTc := Lib.hid (HT.out.call hbX (by have := HS.out; omega))
        have HRc := Lib.hid (HRB.out.call hbX (by have := HS.out; omega))
        have HVc := Lib.hid (HV.out.call hbX)
        have HBc := Lib.hid (HB.out.trans (hbX.mono (by have := HS.out; omega)))
        have HSc : Hid (z + 2 ≤ wc.heap.size) := Lib.hid (by have := HS.out; omega)
        obtain ⟨zP, hzP⟩ : ∃ q, wA.heap.size = q := ⟨_, rfl⟩
        rw [hzP] at hPX hsX ⊢
        have HP := Lib.hid hPX
        clear hwx hbX hPX hzP hsX
        have p0 := HP.out.c0
        have p1 := HP.out.c1
        by_cases hlt : CX < CY
        · have HST2 : Hid (foldD [] (clipL (l.take (k + 1))) = addD (foldD [] (clipL (l.take k))) (CX, CY)) := Lib.hid (by rw [HST.out, if_pos hlt]; unfold foldD; rw [List.foldl_append]; rfl)
          have hlen := (foldD_ok (clipL (l.take k)) [] Norm.nil (clipL_ok _)).2.2
          have hl2 := clipL_len (l.take k)
          rw [List.length_take] at hl2
          obtain ⟨acc, hacc⟩ : ∃ q, foldD [] (clipL (l.take k)) = q := ⟨_, rfl⟩
          rw [hacc] at HVc HST2 hlen
          have CA := Lib.hid (add_any (z + 2) v acc (CX, CY) wc HVc.out (by simp at hlen; omega))
          unfold TimP at CA
          obtain ⟨oa, ca, rfl⟩ := HVc.out.form
          have t0 := HTc.out.1
          have t1 := HTc.out.2
          clear hlen hl2 hacc
          go_wp2_with (go_at_call 17; refine CA.out.mono ?_; rintro e w2 ⟨v2, rfl, hv2, hb2⟩; obtain ⟨o2, c2, rfl⟩ := hv2.form; have HV2 := Lib.hid hv2; have HT2 := Lib.hid (HTc.out.call hb2 (by have := HSc.out; omega)); have HR2 := Lib.hid (HRc.out.call hb2 (by have := HSc.out; omega)); have HB2 := Lib.hid (HBc.out.trans (hb2.mono (by have := HSc.out; omega))); have HS2 := Lib.hid (Nat.le_trans HSc.out hb2.size); have y0 := HT2.out.1; have y1 := HT2.out.2; clear hv2 hb2 t0 t1)
          go_roundw
          case rel => exact ⟨k + 1, _, by go_num, by omega, Lib.hid (HT2.out.set _), Lib.hid (by rw [HST2.out]; exact (IvL.low HV2.out HSc.out).far (p := ⟨z + 1, 0, none⟩) (Nat.lt_succ_self _) _), Lib.hid (HR2.out.far (by omega) _), Lib.hid (HB2.out.setCell (p := ⟨z + 1, 0, none⟩) (Nat.le_succ _) _), Lib.hid (by have := HS2.out; simpa using this)⟩
          case measure => simp [intOf]; omega
        · have HST2 : Hid (foldD [] (clipL (l.take (k + 1))) = foldD [] (clipL (l.take k))) := Lib.hid (by rw [HST.out, if_neg hlt, List.append_nil])
          have d1 : decide (CX < CY) = false := decide_eq_false hlt
          clear hlt
          go_wp2_with fail
          go_roundw
          case rel => exact ⟨k + 1, v, by go_num, by omega, HTc, Lib.hid (by rw [HST2.out]; exact HVc.out), HRc, HBc, HSc⟩
          case measure => simp [intOf]; omega
    · have hkk : k = n := by omega
      subst hkk
      have HVF : Hid (IvL wr (z + 2) v (foldD [] (clipL l))) := Lib.hid (by have := HV.out; rwa [← HN.out, List.take_length] at this)
      obtain ⟨oa, ca, rfl⟩ := HVF.out.form
      have t0 := HT.out.1
      have r0 := HRB.out.1
      have r1 := HRB.out.2
      go_wp2_with fail
      refine bodyPost_ret (v := .agg #[.slice oa (foldD [] (clipL l)).length ca]) (by simp [results, Tryd.results6, go_sem, World.cell?_setCell_same _ _ _ r0]) rfl ?_
      refine ⟨_, rfl, ?_, ?_⟩
      · rw [HZ.out]
        exact (HVF.out.far (p := ⟨z, 0, none⟩) (by show z < z + 2; omega) _).low (by omega)
      · rw [HZ.out]
        exact HB.out.setCell (p := ⟨z, 0, none⟩) (Nat.le_refl _) _
end Go.Proofs.YtbmndenopgkpoaaDoor
