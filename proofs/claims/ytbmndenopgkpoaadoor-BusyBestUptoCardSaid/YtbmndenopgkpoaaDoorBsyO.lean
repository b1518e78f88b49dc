/- The document's And and can. -/
import Derived.Test.YtbmndenopgkpoaaDoorBsyN
namespace Go.Proofs.YtbmndenopgkpoaaDoor
open Go.RowKit Wrk Go.Shelf
theorem PB1 (w : World) (a b : Int) : IvS (w.alloc (.cells #[.int .i64 a, .int .i64 b] 55)) (.slice (some ⟨w.heap.size, 0, none⟩) 1 1) [(a, b)] := by
  refine ⟨some ⟨w.heap.size, 0, none⟩, 1, rfl, (fun h => by cases h), fun _ => ⟨_, rfl⟩, fun c hc => ?_⟩
  injection hc with hc
  subst hc
  refine ⟨fun _ => by simp, fun k hk => ?_⟩
  have : k = 0 := by simpa using hk
  subst this
  exact ⟨by simp [Addr.add], by simp [Addr.add]⟩
theorem field_L (v : Value) (w : World) : (Instr.field 36 (.agg #[v]) 0).run Tryd.prog w = .ok v w := by kernel_rfl
def notD (l : List Iv) : List Iv := foldD [] (clipL (gapsM loM l))
def andD (a b : List Iv) : List Iv := notD (foldD (notD a) (notD b))
theorem notD_ok {l : List Iv} (h : Norm l) : NotM l (notD l) := OfM.not h (foldD_of _)
theorem andD_or {a b : List Iv} (ha : Norm a) (hb : Norm b) : OrM (notD a) (notD b) (foldD (notD a) (notD b)) := foldD_or (notD_ok ha).1 (notD_ok hb).1
set_option maxRecDepth 100000 in
set_option maxHeartbeats 16000000 in
theorem rand_any (b1 b2 : Nat) (v0 v1 : Value) (la lb : List Iv) (w : World) (h0 : IvL w b1 v0 la) (h1 : IvL w b2 v1 lb) (hna : Norm la) (hnb : Norm lb) (hla : la.length ≤ 20000) (hlb : lb.length ≤ 20000) : Calls Tryd.prog 32 #[.agg #[v0], .agg #[v1]] w (TimP (andD la lb) w) := by
  obtain ⟨oa0, cap0, rfl⟩ := h0.form
  obtain ⟨ob, cap, rfl⟩ := h1.form
  obtain ⟨m, hm⟩ : ∃ m, la.length = m := ⟨_, rfl⟩
  obtain ⟨n, hn⟩ : ∃ n, lb.length = n := ⟨_, rfl⟩
  have l1 := (notD_ok hna).2.2
  have l2 := (notD_ok hnb).2.2
  have l3 := (andD_or hna hnb).2.2
  have HNO := Lib.hid (And.intro (notD_ok hna).1 (notD_ok hnb).1)
  have HLN : Hid ((notD la).length ≤ 20001 ∧ (notD lb).length ≤ 20001 ∧ (foldD (notD la) (notD lb)).length ≤ 40002 ∧ la.length ≤ 99999 ∧ lb.length ≤ 99999) := Lib.hid (by omega)
  rw [hm] at h0 ⊢
  rw [hn] at h1 ⊢
  obtain ⟨z, hz⟩ : ∃ z, w.heap.size = z := ⟨_, rfl⟩
  obtain ⟨w1, hw1⟩ : ∃ W, w.alloc (.cells #[.slice oa0 m cap0] 36) = W := ⟨_, rfl⟩
  obtain ⟨w2, hw2⟩ : ∃ W, w1.alloc (.cells #[.slice ob n cap] 36) = W := ⟨_, rfl⟩
  obtain ⟨wC, hwC⟩ : ∃ W, w2.alloc (.cells #[.slice none 0 0] 36) = W := ⟨_, rfl⟩
  have e1 : w1.heap.size = z + 1 := by rw [← hw1, ← hz]; simp
  have e2 : w2.heap.size = z + 2 := by rw [← hw2]; simp [e1]
  have o1 : One w1 z (.slice oa0 m cap0) := by rw [← hw1, ← hz]; exact One.new _ _ _
  have o2 : One w2 (z + 1) (.slice ob n cap) := by rw [← hw2, ← e1]; exact One.new _ _ _
  have o3 : One wC (z + 2) (.slice none 0 0) := by rw [← hwC, ← e2]; exact One.new _ _ _
  have bw1 : Below z w w1 := by rw [← hw1, ← hz]; exact (Below.refl _ _).alloc (Nat.le_refl _) _
  have bw2 : Below (z + 1) w1 w2 := by rw [← hw2]; exact (Below.refl _ _).alloc (by omega) _
  have bwC : Below (z + 2) w2 wC := by rw [← hwC]; exact (Below.refl _ _).alloc (by omega) _
  have HT0 : Hid (One wC z (.slice oa0 m cap0)) := Lib.hid ((o1.call bw2 (by omega)).call bwC (by omega))
  have HO0 : Hid (One wC (z + 1) (.slice ob n cap)) := Lib.hid (o2.call bwC (by omega))
  have HR0 : Hid (One wC (z + 2) (.slice none 0 0)) := Lib.hid o3
  have HSC : Hid (wC.heap.size = z + 3) := Lib.hid (by rw [← hwC]; simp [e2])
  have hbC : Below z w wC := bw1.trans ((bw2.mono (by omega)).trans (bwC.mono (by omega)))
  have HBC := Lib.hid hbC
  have C0 := Lib.hid (fun w0 (hb : Below wC.heap.size wC w0) => rnot_any b1 _ la w0 ((h0.call (by rw [hz]; exact hbC)).call hb) HLN.out.2.2.2.1)
  have C1 := Lib.hid (fun w0 (hb : Below wC.heap.size wC w0) => rnot_any b2 _ lb w0 ((h1.call (by rw [hz]; exact hbC)).call hb) HLN.out.2.2.2.2)
  have CO := Lib.hid (fun v6 v8 w0 h6 h8 => ror_any 0 0 v6 v8 (notD la) (notD lb) w0 h6 h8 HNO.out.1 HNO.out.2 (by have := HLN.out.1; omega) (by have := HLN.out.2.1; omega))
  have C9 := Lib.hid (fun v9 w0 h9 => rnot_any 0 v9 (foldD (notD la) (notD lb)) w0 h9 (by have := HLN.out.2.2.1; omega))
  unfold TimP at C0 C1 C9
  unfold TimQ at CO
  change Hid (∀ w0, Below wC.heap.size wC w0 → Calls _ _ _ w0 fun e w' => ∃ v, e = .returned (.agg #[v]) ∧ IvL w' w0.heap.size v (notD la) ∧ Below w0.heap.size w0 w') at C0
  change Hid (∀ w0, Below wC.heap.size wC w0 → Calls _ _ _ w0 fun e w' => ∃ v, e = .returned (.agg #[v]) ∧ IvL w' w0.heap.size v (notD lb) ∧ Below w0.heap.size w0 w') at C1
  change Hid (∀ v9 w0, _ → Calls _ _ _ w0 fun e w' => ∃ v, e = .returned (.agg #[v]) ∧ IvL w' w0.heap.size v (andD la lb) ∧ Below w0.heap.size w0 w') at C9
  obtain ⟨NA, hNA⟩ : ∃ x, notD la = x := ⟨_, rfl⟩
  obtain ⟨NB, hNB⟩ : ∃ x, notD lb = x := ⟨_, rfl⟩
  obtain ⟨AD, hAD⟩ : ∃ x, andD la lb = x := ⟨_, rfl⟩
  rw [hNA] at C0 CO C9
  rw [hNB] at C1 CO C9
  rw [hAD] at C9 ⊢
  obtain ⟨FO, hFO⟩ : ∃ x, foldD NA NB = x := ⟨_, rfl⟩
  rw [hFO] at CO C9
  have HZ := Lib.hid hz
  have hwCC : ((w.alloc (.cells #[.slice oa0 m cap0] 36)).alloc (.cells #[.slice ob n cap] 36)).alloc (.cells #[.slice none 0 0] 36) = wC := by rw [hw1, hw2, hwC]
  clear hn hm h0 h1 o1 o2 o3 bw1 bw2 bwC hbC hna hnb e1 e2 hw1 hw2 hwC l1 l2 l3 hNA hNB hAD hFO
  go_enter Tryd.func32, Tryd.ntmps32
  go_upto_region 1 with fail
  try simp only [hwCC, hz]
  clear hwCC hz
  have S0 : Hid (∀ wx, Below wC.heap.size wC wx → wx.cell? ⟨z, 0, none⟩ = some (.slice oa0 m cap0) ∧ wx.cell? ⟨z + 1, 0, none⟩ = some (.slice ob n cap)) := Lib.hid fun wx hb => ⟨(HT0.out.call hb (by have := HSC.out; omega)).1, (HO0.out.call hb (by have := HSC.out; omega)).1⟩
  have S2 : Hid (∀ wx u, Below wC.heap.size wC wx → (wx.setCell ⟨z + 1 + 1, 0, none⟩ u).cell? ⟨z, 0, none⟩ = some (.slice oa0 m cap0) ∧ (wx.setCell ⟨z + 1 + 1, 0, none⟩ u).cell? ⟨z + 1, 0, none⟩ = some (.slice ob n cap)) := Lib.hid fun wx u hb => ⟨((HT0.out.call hb (by have := HSC.out; omega)).far (by omega) u).1, ((HO0.out.call hb (by have := HSC.out; omega)).far (by omega) u).1⟩
  have HX := Lib.hid (below_drew (Below.refl wC.heap.size wC))
  have hR0 := HSC.out
  go_region_held3 (fun w' => w'.cell? ⟨z, 0, none⟩ = some (.slice oa0 m cap0) ∧ w'.cell? ⟨z + 1, 0, none⟩ = some (.slice ob n cap)) (first | with_reducible exact S0.out _ (Below.refl _ _) | with_reducible exact S0.out _ HX.out | with_reducible exact S2.out _ _ HX.out) (first
    | (go_at_call 45; (with_reducible refine (C0.out _ HX.out).mono ?_); rintro e w6 ⟨v6, rfl, hv6, hb6⟩; obtain ⟨o6, c6, rfl⟩ := hv6.form; have H6 := Lib.hid (hv6.low (Nat.zero_le _)); (try replace H8 := Lib.hid (H8.out.call hb6)); replace HX := Lib.hid (HX.out.trans (hb6.mono HX.out.size)); clear hv6 hb6)
    | (go_at_call 45; (with_reducible refine (C1.out _ HX.out).mono ?_); rintro e w8 ⟨v8, rfl, hv8, hb8⟩; obtain ⟨o8, c8, rfl⟩ := hv8.form; have H8 := Lib.hid (hv8.low (Nat.zero_le _)); (try replace H6 := Lib.hid (H6.out.call hb8)); replace HX := Lib.hid (HX.out.trans (hb8.mono HX.out.size)); clear hv8 hb8)
    | (go_at_call 46; (with_reducible refine (CO.out _ _ _ H6.out H8.out).mono ?_); rintro e w9 ⟨v9, rfl, hv9, hb9⟩; obtain ⟨o9, c9, rfl⟩ := hv9.form; have H9 := Lib.hid hv9; replace HX := Lib.hid (HX.out.trans (hb9.mono HX.out.size)); clear hv9 hb9)
    | (go_at_call 45; (with_reducible refine (C9.out _ _ H9.out).mono ?_); rintro e w10 ⟨v10, rfl, hv10, hb10⟩; obtain ⟨o10, c10, rfl⟩ := hv10.form; have H10 := Lib.hid (hv10.low HX.out.size); replace HX := Lib.hid (HX.out.trans (hb10.mono HX.out.size)); have y0 := (HR0.out.call HX.out (by omega)).1; have y1 := (HR0.out.call HX.out (by omega)).2; clear hv10 hb10))
  all_goals (
    go_wp2_with fail
    refine bodyPost_ret (v := .agg #[.slice o10 AD.length c10]) (by simp [results, Tryd.results32, go_sem, World.cell?_setCell_same _ _ _ y0]) rfl ?_
    refine ⟨_, rfl, ?_, ?_⟩
    · exact (H10.out.far (p := ⟨z + 1 + 1, 0, none⟩) (by show z + 1 + 1 < _; omega) _).low (by have h3 := HZ.out; omega)
    · rw [HZ.out]
      exact (HBC.out.trans (HX.out.mono (by omega))).setCell (p := ⟨z + 1 + 1, 0, none⟩) (by show z ≤ z + 1 + 1; omega) _)
set_option maxRecDepth 100000 in
set_option maxHeartbeats 16000000 in
theorem rcan_any (b0 : Nat) (v0 : Value) (L : List Iv) (a b : Int) (w : World) (h0 : IvL w b0 v0 L) (hn : Norm L) (hl : L.length ≤ 10000) (hab : a < b) : Calls Tryd.prog 20 #[.agg #[v0], .int .i64 a, .int .i64 b] w fun e w' => e = .returned (.bool (canB L a b)) ∧ Below w.heap.size w w' := by
  obtain ⟨oa0, cap0, rfl⟩ := h0.form
  have ho := foldD_of [(a, b)]
  have hol := ho.len
  have HCB : Hid (canB L a b = decide ((andD L (foldD [] (clipL [(a, b)]))).length = 0)) := Lib.hid (and_can hn ho (notD_ok hn) (notD_ok ho.norm) (andD_or hn ho.norm) (notD_ok (andD_or hn ho.norm).1) hab)
  have hal : (andD L (foldD [] (clipL [(a, b)]))).length ≤ 20010 := by
    have l1 := (notD_ok hn).2.2
    have l2 := (notD_ok ho.norm).2.2
    have l3 := (andD_or hn ho.norm).2.2
    have l4 := (notD_ok (andD_or hn ho.norm).1).2.2
    simp at hol
    unfold andD
    omega
  obtain ⟨m, hm⟩ : ∃ m, L.length = m := ⟨_, rfl⟩
  obtain ⟨z, hz⟩ : ∃ z, w.heap.size = z := ⟨_, rfl⟩
  obtain ⟨wC, hwC⟩ : ∃ W, w.alloc (.cells #[.slice oa0 m cap0] 36) = W := ⟨_, rfl⟩
  rw [hm] at h0 ⊢
  have HT0 : Hid (One wC z (.slice oa0 m cap0)) := Lib.hid (by rw [← hwC, ← hz]; exact One.new _ _ _)
  have HSC : Hid (wC.heap.size = z + 1) := Lib.hid (by rw [← hwC]; simp [hz])
  have hbC : Below z w wC := by rw [← hwC, ← hz]; exact (Below.refl _ _).alloc (Nat.le_refl _) _
  have HBC := Lib.hid hbC
  have COF := Lib.hid (fun v w0 h => rof_any v [(a, b)] w0 h (by simp))
  have CA := Lib.hid (fun v w0 (hb : Below wC.heap.size wC w0) b2 h => rand_any b0 b2 _ v L (foldD [] (clipL [(a, b)])) w0 ((h0.call (by rw [hz]; exact hbC)).call hb) h hn ho.norm (by omega) (by simp at hol; omega))
  unfold TimP at COF CA
  obtain ⟨OO, hOO⟩ : ∃ x, foldD [] (clipL [(a, b)]) = x := ⟨_, rfl⟩
  rw [hOO] at HCB hal
  simp only [hOO] at COF CA
  obtain ⟨AD, hAD⟩ : ∃ x, andD L OO = x := ⟨_, rfl⟩
  rw [hAD] at HCB hal
  simp only [hAD] at CA
  obtain ⟨q, hq⟩ : ∃ q, AD.length = q := ⟨_, rfl⟩
  rw [hq] at HCB hal
  have HQ := Lib.hid hq
  have HZ := Lib.hid hz
  clear hm h0 hbC ho hol hOO hAD hq
  go_enter Tryd.func20, Tryd.ntmps20
  go_upto_region 1 with fail
  try simp only [hwC, hz]
  clear hwC hz
  have S0 : Hid (∀ wx, Below wC.heap.size wC wx → wx.cell? ⟨z, 0, none⟩ = some (.slice oa0 m cap0)) := Lib.hid fun wx hb => (HT0.out.call hb (by have := HSC.out; omega)).1
  have HX := Lib.hid (below_drew (Below.refl wC.heap.size wC))
  have hfl := field_L
  have HQZ : Hid (((q : Int) == 0) = decide (q = 0)) := Lib.hid (by rw [Bool.eq_iff_iff]; simp)
  have HXA := Lib.hid (below_drew ((Below.refl wC.heap.size wC).alloc (Nat.le_refl _) (.cells #[.int .i64 a, .int .i64 b] 55)))
  have HPB := Lib.hid ((PB1 wC a b).call (below_drew (Below.refl _ _)))
  go_region_held3 (fun w' => w'.cell? ⟨z, 0, none⟩ = some (.slice oa0 m cap0)) (first | with_reducible exact S0.out _ (Below.refl _ _) | with_reducible exact S0.out _ HX.out | with_reducible exact S0.out _ HXA.out) (first
    | (go_at_call 6; (with_reducible refine (COF.out _ _ HPB.out).mono ?_); rintro e w6 ⟨v6, rfl, hv6, hb6⟩; obtain ⟨o6, c6, rfl⟩ := hv6.form; have H6 := Lib.hid hv6; replace HX := Lib.hid (HXA.out.trans (hb6.mono HXA.out.size)); clear hv6 hb6)
    | (go_at_call 32; refine (CA.out _ _ HX.out _ H6.out).mono ?_; rintro e w8 ⟨v8, rfl, hv8, hb8⟩; obtain ⟨o8, c8, rfl⟩ := hv8.form; rw [HQ.out]; replace HX := Lib.hid (HX.out.trans (hb8.mono HX.out.size)); clear hv8 hb8))
  all_goals (
    go_wp2_with fail
    go_ret
    exact ⟨by rw [HCB.out, ← HQZ.out]; rfl, by rw [HZ.out]; exact HBC.out.trans (HX.out.mono (by have := HSC.out; omega))⟩)
end Go.Proofs.YtbmndenopgkpoaaDoor
