/- The document's Or and Not. -/
import Derived.Test.YtbmndenopgkpoaaDoorBsyK
import Derived.Test.YtbmndenopgkpoaaDoorMomH
namespace Go.Proofs.YtbmndenopgkpoaaDoor
open Go.RowKit Wrk Go.Shelf
/-- What is handed back: a set, whosever. -/
def TimQ (l : List Iv) (w : World) (e : Ending) (w' : World) : Prop := ∃ v, e = .returned (.agg #[v]) ∧ IvL w' 0 v l ∧ Below w.heap.size w w'
theorem IvL.lt {w : World} {b : Nat} {v : Value} {l : List Iv} (h : IvL w b v l) : ∀ k, v.ownBlock = some k → b ≤ k ∧ k < w.heap.size := World.ownsRow.lt h
set_option maxRecDepth 100000 in
set_option maxHeartbeats 16000000 in
theorem ror_any (b1 b2 : Nat) (v0 v1 : Value) (la lb : List Iv) (w : World) (h0 : IvL w b1 v0 la) (h1 : IvL w b2 v1 lb) (hna : Norm la) (hnb : Norm lb) (hla : la.length ≤ 200000) (hlb : lb.length ≤ 200000) : Calls Tryd.prog 46 #[.agg #[v0], .agg #[v1]] w (TimQ (foldD la lb) w) := by
  obtain ⟨oa0, cap0, rfl⟩ := h0.form
  obtain ⟨ob, cap, rfl⟩ := h1.form
  obtain ⟨m, hm⟩ : ∃ m, la.length = m := ⟨_, rfl⟩
  obtain ⟨n, hn⟩ : ∃ n, lb.length = n := ⟨_, rfl⟩
  have HN := Lib.hid hn
  rw [hm] at h0 hla ⊢
  rw [hn] at h1 hlb ⊢
  obtain ⟨z, hz⟩ : ∃ z, w.heap.size = z := ⟨_, rfl⟩
  obtain ⟨w1, hw1⟩ : ∃ W, w.alloc (.cells #[.slice oa0 m cap0] 36) = W := ⟨_, rfl⟩
  obtain ⟨w2, hw2⟩ : ∃ W, w1.alloc (.cells #[.slice ob n cap] 36) = W := ⟨_, rfl⟩
  obtain ⟨wC, hwC⟩ : ∃ W, w2.alloc (.cells #[.slice none 0 0] 36) = W := ⟨_, rfl⟩
  have e1 : w1.heap.size = z + 1 := by rw [← hw1, ← hz]; simp
  have e2 : w2.heap.size = z + 2 := by rw [← hw2]; simp [e1]
  have o1 : One w1 z (.slice oa0 m cap0) := by rw [← hw1, ← hz]; exact One.new _ _ _
  have o2 : One w2 (z + 1) (.slice ob n cap) := by rw [← hw2, ← e1]; exact One.new _ _ _
  have o3 : One wC (z + 2) (.slice none 0 0) := by rw [← hwC, ← e2]; exact One.new _ _ _
  have bw1 : Below z w w1 := by rw [← hw1, ← hz]; exact (Below.refl _ _).alloc (Nat.le_refl _) _
  have bw2 : Below (z + 1) w1 w2 := by rw [← hw2]; exact (Below.refl _ _).alloc (by omega) _
  have bwC : Below (z + 2) w2 wC := by rw [← hwC]; exact (Below.refl _ _).alloc (by omega) _
  have HT0 : Hid (One wC z (.slice oa0 m cap0)) := Lib.hid ((o1.call bw2 (by omega)).call bwC (by omega))
  have HO0 : Hid (One wC (z + 1) (.slice ob n cap)) := Lib.hid (o2.call bwC (by omega))
  have HR0 : Hid (One wC (z + 2) (.slice none 0 0)) := Lib.hid o3
  have HSC : Hid (wC.heap.size = z + 3) := Lib.hid (by rw [← hwC]; simp [e2])
  have hbC : Below z w wC := bw1.trans ((bw2.mono (by omega)).trans (bwC.mono (by omega)))
  have HBC := Lib.hid hbC
  have HV0 : Hid (IvL wC 0 (.slice oa0 m cap0) la) := Lib.hid ((h0.low (Nat.zero_le _)).call (by rw [hz]; exact hbC))
  have HK0 : Hid (∀ k, (Value.slice oa0 m cap0).ownBlock = some k → k < z ∨ z + 3 ≤ k) := Lib.hid fun k hk => by have := (h0.lt k hk).2; omega
  have HI : Hid (∀ w', Below z w w' → IvR w' ob lb) := Lib.hid fun w' hb => by
    obtain ⟨ob', cap', e, -, hR⟩ := h1.toS
    cases e
    exact hR.call (by rw [hz]; exact hb)
  have HBK : Hid (∀ a, ob = some a → 0 < n → a.block < z) := Lib.hid fun a ha h9 => by
    obtain ⟨ob', cap', e, -, hR⟩ := h1.toS
    cases e
    have := (hR.2 a ha).1 (by omega)
    omega
  have HNA := Lib.hid hna
  have HNB := Lib.hid hnb
  have HLA := Lib.hid hm
  have HZ := Lib.hid hz
  have hwCC : ((w.alloc (.cells #[.slice oa0 m cap0] 36)).alloc (.cells #[.slice ob n cap] 36)).alloc (.cells #[.slice none 0 0] 36) = wC := by rw [hw1, hw2, hwC]
  clear hn hm h0 h1 o1 o2 o3 bw1 bw2 bwC hbC hna hnb e1 e2 hw1 hw2 hwC
  go_enter Tryd.func46, Tryd.ntmps46
  go_upto_region 2 with fail
  try simp only [hwCC, hz]
  clear hwCC hz
  go_loopw [5] (fun c wr => ∃ (k : Nat) (v : Value), c = .int .i64 (k : Int) ∧ k ≤ n ∧ Hid (One wr z v) ∧ Hid (IvL wr 0 v (foldD la (lb.take k))) ∧ Hid (∀ q, v.ownBlock = some q → q < z ∨ z + 3 ≤ q) ∧ Hid (One wr (z + 1) (.slice ob n cap)) ∧ Hid (One wr (z + 2) (.slice none 0 0)) ∧ Hid (Below z w wr) ∧ Hid (z + 3 ≤ wr.heap.size)) (fun c _ => n - (intOf c).toNat)
  case atStart => exact ⟨0, _, rfl, by omega, HT0, HV0, HK0, HO0, HR0, HBC, Lib.hid (by rw [HSC.out]; exact Nat.le_refl _)⟩
  case round =>
    obtain ⟨k, v, rfl, hk, HT, HV, HK, HO, HRB, HB, HS⟩ := hrel
    have t1 := HO.out.1
    by_cases hkn : k < n
    · have hkl : k < lb.length := by rw [HN.out]; exact hkn
      have hri := HI.out wr HB.out
      obtain ⟨a, rfl⟩ : ∃ a, ob = some a := hri.1 (by omega)
      obtain ⟨c0, c1⟩ := hri.at hkl
      have HST := Lib.hid (foldD_take (acc := la) hkl)
      obtain ⟨x, hx⟩ : ∃ x, lb.getD k iv0 = x := ⟨_, rfl⟩
      rw [hx] at c0 c1 HST
      have hlen : (foldD la (lb.take k)).length ≤ 400000 := by
        have h1 := (foldD_ok (lb.take k) la HNA.out (fun p hp => HNB.out.1 p (List.mem_of_mem_take hp))).2.2
        rw [List.length_take, HLA.out] at h1
        omega
      obtain ⟨acc, hacc⟩ : ∃ q, foldD la (lb.take k) = q := ⟨_, rfl⟩
      rw [hacc] at HV HST hlen
      have CA := Lib.hid (fun w0 (hb : Below wr.heap.size wr w0) => add_any 0 v acc x w0 (HV.out.call hb) (by omega))
      unfold TimP at CA
      obtain ⟨oa, ca, rfl⟩ := HV.out.form
      obtain ⟨na, hna⟩ : ∃ q, acc.length = q := ⟨_, rfl⟩
      rw [hna] at CA HT HK
      have k1 : (k : Int) < (n : Int) := by omega
      have k2 : (0 : Int) ≤ (k : Int) := by omega
      have hz1 : z + 1 < wr.heap.size := by have := HS.out; omega
      have hb0 := World.block_lt_of_cell? _ _ c0
      have hb1 := World.block_lt_of_cell? _ _ c1
      clear hx hlen hacc hna hri
      go_upto_region 4 with fail
      have t0 := HT.out.1
      have HX := Lib.hid (below_drew (Below.refl wr.heap.size wr))
      have HDS := Lib.hid (below_drew (Below.refl 0 wr)).size
      go_region_with (first | (go_at_call 17; (with_reducible refine (CA.out _ HX.out).mono ?_); rintro e w2 ⟨v2, rfl, hv2, hb2⟩; obtain ⟨o2, c2, rfl⟩ := hv2.form; have HV2 := Lib.hid hv2; have HX2 := Lib.hid (HX.out.trans (hb2.mono HX.out.size)); have y0 := (HT.out.call HX2.out (by omega)).1; have y1 := (HT.out.call HX2.out (by omega)).2; clear hv2 hb2))
      all_goals (
        have HT2 := Lib.hid ((HT.out.call HX2.out (by omega)).set (.slice o2 (addD acc x).length c2))
        have HO2 := Lib.hid ((HO.out.call HX2.out (by omega)).far (Y := z) (o := 0) (by omega) (.slice o2 (addD acc x).length c2))
        have HR2 := Lib.hid ((HRB.out.call HX2.out (by have := HS.out; omega)).far (Y := z) (o := 0) (by omega) (.slice o2 (addD acc x).length c2))
        have HB2 := Lib.hid ((HB.out.trans (HX2.out.mono (by omega))).setCell (p := ⟨z, 0, none⟩) (Nat.le_refl _) (.slice o2 (addD acc x).length c2))
        have HS2 : Hid (z + 3 ≤ (w2.setCell ⟨z, 0, none⟩ (.slice o2 (addD acc x).length c2)).heap.size) := Lib.hid (Nat.le_trans HS.out (Nat.le_trans HX2.out.size ((Below.refl 0 w2).setCell (p := ⟨z, 0, none⟩) (Nat.zero_le _) (.slice o2 (addD acc x).length c2)).size))
        have HK2 : Hid (∀ q, (Value.slice o2 (addD acc x).length c2).ownBlock = some q → q < z ∨ z + 3 ≤ q) := Lib.hid fun q hq => .inr (Nat.le_trans HS.out (Nat.le_trans HDS.out (HV2.out.lt q hq).1))
        have HV3 : Hid (IvL (w2.setCell ⟨z, 0, none⟩ (.slice o2 (addD acc x).length c2)) 0 (.slice o2 (addD acc x).length c2) (addD acc x)) := Lib.hid ((HV2.out.far (p := ⟨z, 0, none⟩) (by show z < _; have h1 := HS.out; have h2 := HDS.out; omega) (.slice o2 (addD acc x).length c2)).low (Nat.zero_le _))
        clear c0 c1 hb0 hb1 t0 t1
        go_wp2_with fail
        go_roundw
        case rel => exact ⟨k + 1, _, by go_num, by omega, HT2, Lib.hid (by rw [HST.out]; exact HV3.out), HK2, HO2, HR2, HB2, HS2⟩
        case measure => (simp [intOf]; omega))
    · have hkk : k = n := by omega
      subst hkk
      have HVF : Hid (IvL wr 0 v (foldD la lb)) := Lib.hid (by have := HV.out; rwa [← HN.out, List.take_length] at this)
      obtain ⟨oa, ca, rfl⟩ := HVF.out.form
      have t0 := HT.out.1
      have r0 := HRB.out.1
      have r1 := HRB.out.2
      go_wp2_with fail
      refine bodyPost_ret (v := .agg #[.slice oa (foldD la lb).length ca]) (by simp [results, Tryd.results46, go_sem, World.cell?_setCell_same _ _ _ r0]) rfl ?_
      refine ⟨_, rfl, ?_, ?_⟩
      · exact ivOwn_far HVF.out (p := ⟨z + 2, 0, none⟩) (fun q hq => by have := HK.out q hq; show q ≠ z + 2; omega) _
      · rw [HZ.out]
        exact HB.out.setCell (p := ⟨z + 2, 0, none⟩) (by show z ≤ z + 2; omega) _
set_option maxRecDepth 100000 in
set_option maxHeartbeats 16000000 in
theorem rnot_any (b : Nat) (v0 : Value) (l : List Iv) (w : World) (h0 : IvL w b v0 l) (hl : l.length ≤ 99999) : Calls Tryd.prog 45 #[.agg #[v0]] w (TimP (foldD [] (clipL (gapsM loM l))) w) := by
  obtain ⟨ob, cap, rfl, -, hR⟩ := h0.toS
  obtain ⟨n, hn⟩ : ∃ n, l.length = n := ⟨_, rfl⟩
  have HN := Lib.hid hn
  rw [hn] at hl ⊢
  obtain ⟨z, hz⟩ : ∃ z, w.heap.size = z := ⟨_, rfl⟩
  obtain ⟨w1, hw1⟩ : ∃ W, w.alloc (.cells #[.slice ob n cap] 36) = W := ⟨_, rfl⟩
  obtain ⟨wC, hwC⟩ : ∃ W, w1.alloc (.cells #[.slice none 0 0] 36) = W := ⟨_, rfl⟩
  have e1 : w1.heap.size = z + 1 := by rw [← hw1, ← hz]; simp
  have o1 : One w1 z (.slice ob n cap) := by rw [← hw1, ← hz]; exact One.new _ _ _
  have o3 : One wC (z + 1) (.slice none 0 0) := by rw [← hwC, ← e1]; exact One.new _ _ _
  have bw1 : Below z w w1 := by rw [← hw1, ← hz]; exact (Below.refl _ _).alloc (Nat.le_refl _) _
  have bwC : Below (z + 1) w1 wC := by rw [← hwC]; exact (Below.refl _ _).alloc (by omega) _
  have HT0 : Hid (One wC z (.slice ob n cap)) := Lib.hid (o1.call bwC (by omega))
  have HR0 : Hid (One wC (z + 1) (.slice none 0 0)) := Lib.hid o3
  have HSC : Hid (wC.heap.size = z + 2) := Lib.hid (by rw [← hwC]; simp [e1])
  have HBC : Hid (Below z w wC) := Lib.hid (bw1.trans (bwC.mono (by omega)))
  have HI : Hid (∀ w', Below z w w' → IvR w' ob l) := Lib.hid fun w' hb => hR.call (by rw [hz]; exact hb)
  have HZ := Lib.hid hz
  have hwCC : (w.alloc (.cells #[.slice ob n cap] 36)).alloc (.cells #[.slice none 0 0] 36) = wC := by rw [hw1, hwC]
  obtain ⟨i0, hi0, hz0, hz1, hz2⟩ := info_parts span_info2
  clear hn hR h0 o1 o3 bw1 bwC e1 hw1 hwC
  go_enter Tryd.func45, Tryd.ntmps45
  go_upto_region 4 with fail
  try simp only [hwCC, hz]
  clear hwCC hz
  go_loopw [3, 4, 5] (fun v fr c wr => ∃ (k : Nat) (F : Int), fr = .int .i64 F ∧ c = .int .i64 (k : Int) ∧ k ≤ n ∧ Hid (F = fromAt loM l k) ∧ Hid (wr.ownsRow wC.heap.size 55 2 v k (ivV (gapsP loM l k))) ∧ Hid (Below wC.heap.size wC wr)) (fun _ _ c _ => n - (intOf c).toNat)
  case atStart => exact ⟨0, _, rfl, rfl, by omega, Lib.hid rfl, Lib.hid (World.ownsRow_nil _ _ _ _), Lib.hid (Below.refl _ _)⟩
  case round =>
    obtain ⟨k, F, rfl, rfl, hk, HF, HO, HW⟩ := hrel
    have HTr := Lib.hid (HT0.out.call HW.out (by have := HSC.out; omega))
    have t0 := HTr.out.1
    have hsz : wC.heap.size ≤ wr.heap.size := HW.out.size
    by_cases hkn : k < n
    · have hkl : k < l.length := by rw [HN.out]; exact hkn
      have hri := HI.out wr (HBC.out.trans (HW.out.mono (by have := HSC.out; omega)))
      obtain ⟨a, rfl⟩ : ∃ a, ob = some a := hri.1 (by omega)
      obtain ⟨c0, c1⟩ := hri.at hkl
      have hst : gapsP loM l (k + 1) = gapsP loM l k ++ [(fromAt loM l k, (l.getD k iv0).1)] := rfl
      have hf : fromAt loM l (k + 1) = (l.getD k iv0).2 := by unfold fromAt; rw [if_neg (by omega)]; rfl
      obtain ⟨X, hX⟩ : ∃ x, (l.getD k iv0).1 = x := ⟨_, rfl⟩
      obtain ⟨Y, hY⟩ : ∃ x, (l.getD k iv0).2 = x := ⟨_, rfl⟩
      have HYY := Lib.hid hY
      rw [hX] at c0 hst
      rw [hY] at c1 hf
      rw [← HF.out] at hst
      have HST := Lib.hid hst
      have HFS := Lib.hid hf
      have HC1 := Lib.hid c1
      have HBK1 := Lib.hid (World.block_lt_of_cell? _ _ c1)
      have k1 : (k : Int) < (n : Int) := by omega
      have k2 : (0 : Int) ≤ (k : Int) := by omega
      clear hX hY hst hf hri
      go_wp2_with (at_builtin; refine wpList_append_lies _ rfl (.tmp 13) (.tmp 22) 29 rfl wC.heap.size 55 i0 (.agg #[.int .i64 0, .int .i64 0]) 2 16 Tryd.underlying29 hi0 hz0 hz1 hz2 rfl (by decide) _ k (ivV (gapsP loM l k)) rfl (HO.out.alloc _) _ 1 1 [.int .i64 F, .int .i64 X] rfl rfl (cells_ivs (by simp) _ _) (by simp [Value.oneCell']) (by decide) (by unfold maxLen; omega) (by omega) (by simp; omega) (wr.heap.size + 1) (by simp) ?_; intro g5 c5 w5 hown hgrow hat hlt5; have HOW := Lib.hid hown; have HB5 := Lib.hid ((HW.out.alloc hsz _).grown hgrow (by simp; omega) (fun q hq => (World.ownsRow.lt HO.out q hq).1)); have hbx : Below wC.heap.size wr w5 := ((Below.refl wC.heap.size wr).alloc hsz _).grown hgrow (by simp; omega) (fun q hq => (World.ownsRow.lt HO.out q hq).1); have t5 := (HTr.out.call hbx (by have := HSC.out; omega)).1; have d1 := ((HI.out w5 (HBC.out.trans (HB5.out.mono (by have := HSC.out; omega)))).at hkl).2; rw [HYY.out] at d1; clear hown hgrow hat hlt5 hbx)
      go_roundw
      case rel => exact ⟨k + 1, Y, rfl, by go_num, by omega, Lib.hid HFS.out.symm, Lib.hid (by rw [HST.out, ivV_append]; exact HOW.out), HB5⟩
      case measure => simp [intOf]; omega
    · have hkk : k = n := by omega
      subst hkk
      have HALL : Hid (gapsM loM l = gapsP loM l k ++ [(F, hiM)]) := Lib.hid (by rw [gapsP_all, HN.out, HF.out])
      have HGL : Hid ((gapsM loM l).length = k + 1) := Lib.hid (by rw [gapsM_len, HN.out])
      go_wp2_with (first
        | (at_builtin; refine wpList_append_lies _ rfl (.tmp 30) (.tmp 33) 29 rfl wC.heap.size 55 i0 (.agg #[.int .i64 0, .int .i64 0]) 2 16 Tryd.underlying29 hi0 hz0 hz1 hz2 rfl (by decide) _ k (ivV (gapsP loM l k)) rfl (HO.out.alloc _) _ 1 1 [.int .i64 F, .int .i64 1152921504606846976] rfl rfl (cells_ivs (by simp) _ _) (by simp [Value.oneCell']) (by decide) (by unfold maxLen; omega) (by omega) (by simp; omega) (wr.heap.size + 1) (by simp) ?_; intro g5 c5 w5 hown hgrow hat hlt5; have HOW : Hid (IvS w5 (.slice (some ⟨g5, 0, none⟩) (k + 1) c5) (gapsM loM l)) := Lib.hid ((IvL.of hown HGL.out (by rw [HALL.out, ivV_append]; rfl)).toS); have hb5 := ((HW.out.alloc hsz _).grown hgrow (by simp; omega) (fun q hq => (World.ownsRow.lt HO.out q hq).1)); have HB5 := Lib.hid hb5; clear hown hgrow hat hlt5 hb5)
        | (go_at_call 6; refine (rof_any _ _ _ HOW.out (by rw [HGL.out]; omega)).mono ?_; rintro e w6 ⟨v6, rfl, hv6, hb6⟩; obtain ⟨o6, c6, rfl⟩ := hv6.form; have HV6 := Lib.hid hv6; have HW6 := Lib.hid (HB5.out.trans (hb6.mono HB5.out.size)); have HS6 := Lib.hid HB5.out.size; have HR6 := Lib.hid (HR0.out.call HW6.out (by have := HSC.out; omega)); have y0 := HR6.out.1; have y1 := HR6.out.2; clear hv6 hb6))
      refine bodyPost_ret (v := .agg #[.slice o6 (foldD [] (clipL (gapsM loM l))).length c6]) (by simp [results, Tryd.results45, go_sem, World.cell?_setCell_same _ _ _ y0]) rfl ?_
      refine ⟨_, rfl, ?_, ?_⟩
      · exact (HV6.out.far (p := ⟨z + 1, 0, none⟩) (by show z + 1 < _; have h1 := HS6.out; have h2 := HSC.out; omega) _).low (by have h1 := HS6.out; have h2 := HSC.out; have h3 := HZ.out; omega)
      · rw [HZ.out]
        exact (HBC.out.trans (HW6.out.mono (by have := HSC.out; omega))).setCell (p := ⟨z + 1, 0, none⟩) (by show z ≤ z + 1; omega) _
end Go.Proofs.YtbmndenopgkpoaaDoor
