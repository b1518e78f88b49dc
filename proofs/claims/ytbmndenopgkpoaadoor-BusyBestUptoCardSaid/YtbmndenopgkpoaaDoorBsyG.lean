/- plain.BusyCheck, plain.BusyFind. -/
import Derived.Test.YtbmndenopgkpoaaDoorBsyF
import Derived.Deep.Matrix
namespace Go.Proofs.YtbmndenopgkpoaaDoor
open Go.RowKit Wrk Go.Shelf Go.Deep
theorem set_info : (Tryd.prog.info? 31).map (fun i => (i.zero, i.size, i.bytes)) = some (some (.agg #[.slice none 0 0]), 1, 24) := by kernel_rfl
theorem room_info : (Tryd.prog.info? 65).map (fun i => (i.zero, i.size, i.bytes)) = some (some (.agg #[.int .i64 0, .slice none 0 0]), 2, 32) := by kernel_rfl
/-- The values that stand in a list of sets. -/
theorem SetsS.vals {w : World} {v : Value} {Ls : List (List Iv)} (h : SetsS w v Ls) : ∃ f : Nat → Value, ∀ k, k < Ls.length → (∃ oc c, f k = .slice oc (Ls.getD k []).length c) ∧ IvS w (f k) (Ls.getD k []) ∧ ∀ a ob n c, v = .slice ob n c → ob = some a → w.cell? (a.add k) = some (f k) := by
  obtain ⟨ob, cap, h1, h2, h3⟩ := h
  cases ob with
  | none =>
    refine ⟨fun _ => .slice none 0 0, fun k hk => ?_⟩
    obtain ⟨a, ha⟩ := h2 (by omega)
    cases ha
  | some a =>
    obtain ⟨y, hy⟩ := choose_lt (fun k hk => (h3 a rfl).2 k hk)
    refine ⟨y, fun k hk => ⟨?_, (hy k hk).2, fun a' ob n c e1 e2 => ?_⟩⟩
    · obtain ⟨oc, c, e, _, _⟩ := (hy k hk).2
      exact ⟨oc, c, e⟩
    · rw [h1] at e1
      cases e1
      cases e2
      exact (hy k hk).1
theorem RoomsS.vals {w : World} {v : Value} {Rs : List Rm} (h : RoomsS w v Rs) : ∃ f : Nat → Value, ∀ k, k < Rs.length → (∃ oc c, f k = .slice oc (Rs.getD k rm0).2.length c) ∧ IvS w (f k) (Rs.getD k rm0).2 ∧ ∀ a ob n c, v = .slice ob n c → ob = some a → w.cell? (a.add (k * 2)) = some (.int .i64 (Rs.getD k rm0).1) ∧ w.cell? { block := (a.add (k * 2)).block, off := (a.add (k * 2)).off + 1 } = some (f k) := by
  obtain ⟨ob, cap, h1, h2, h3⟩ := h
  cases ob with
  | none =>
    refine ⟨fun _ => .slice none 0 0, fun k hk => ?_⟩
    obtain ⟨a, ha⟩ := h2 (by omega)
    cases ha
  | some a =>
    obtain ⟨y, hy⟩ := choose_lt (fun k hk => ((h3 a rfl).2 k hk).2)
    refine ⟨y, fun k hk => ⟨?_, (hy k hk).2, fun a' ob n c e1 e2 => ?_⟩⟩
    · obtain ⟨oc, c, e, _, _⟩ := (hy k hk).2
      exact ⟨oc, c, e⟩
    · rw [h1] at e1
      cases e1
      cases e2
      exact ⟨((h3 a rfl).2 k hk).1, (hy k hk).1⟩
/-- A row of the call's own as a list of sets. -/
theorem SetsS.own {w : World} {b n : Nat} {e : TypeId} {v : Value} {f : Nat → Value} {Ls : List (List Iv)} (hn : Ls.length = n) (h : w.ownsRow b e 1 v n ((List.range n).map f)) (hf : ∀ k, k < n → IvS w (f k) (Ls.getD k [])) : SetsS w v Ls := by
  subst hn
  rcases h.2 with ⟨rfl, h0⟩ | ⟨g, cap, cur, rfl, _, hg, _⟩
  · exact ⟨none, 0, by rw [h0], fun h => absurd h (by omega), fun a h => by cases h⟩
  · refine ⟨some ⟨g, 0, none⟩, cap, rfl, fun _ => ⟨_, rfl⟩, fun a ha => ?_⟩
    injection ha with ha
    subst ha
    refine ⟨fun _ => (Array.getElem?_eq_some_iff.1 hg).1, fun k hk => ⟨f k, ?_, hf k hk⟩⟩
    exact World.ownsRow.cells h (g := g) rfl k (f k) (by simp [hk])
def roomV (Rs : List Rm) (f : Nat → Value) (n : Nat) : List Value := (List.range n).flatMap fun k => [.int .i64 (Rs.getD k rm0).1, f k]
theorem roomV_succ (Rs : List Rm) (f : Nat → Value) (n : Nat) : roomV Rs f (n + 1) = roomV Rs f n ++ [.int .i64 (Rs.getD n rm0).1, f n] := by
  unfold roomV
  rw [List.range_succ, List.flatMap_append]
  simp
theorem roomV_len (Rs : List Rm) (f : Nat → Value) : ∀ n, (roomV Rs f n).length = n * 2
  | 0 => rfl
  | n + 1 => by rw [roomV_succ, List.length_append, roomV_len Rs f n]; simp; omega
theorem roomV_at (Rs : List Rm) (f : Nat → Value) {k : Nat} : ∀ n, k < n → (roomV Rs f n)[k * 2]? = some (.int .i64 (Rs.getD k rm0).1) ∧ (roomV Rs f n)[k * 2 + 1]? = some (f k)
  | 0, h => absurd h (by omega)
  | n + 1, h => by
    rw [roomV_succ]
    have hl := roomV_len Rs f n
    by_cases hk : k < n
    · obtain ⟨h1, h2⟩ := roomV_at Rs f n hk
      rw [List.getElem?_append_left (by omega), List.getElem?_append_left (by omega)]
      exact ⟨h1, h2⟩
    · have e : k = n := by omega
      subst e
      rw [List.getElem?_append_right (by omega), List.getElem?_append_right (by omega), hl]
      simp
theorem RoomsS.own {w : World} {b n : Nat} {e : TypeId} {v : Value} {f : Nat → Value} {Rs : List Rm} (hn : Rs.length = n) (h : w.ownsRow b e 2 v n (roomV Rs f n)) (hf : ∀ k, k < n → IvS w (f k) (Rs.getD k rm0).2) : RoomsS w v Rs := by
  subst hn
  rcases h.2 with ⟨rfl, h0⟩ | ⟨g, cap, cur, rfl, _, hg, _⟩
  · exact ⟨none, 0, by rw [h0], fun h => absurd h (by omega), fun a h => by cases h⟩
  · refine ⟨some ⟨g, 0, none⟩, cap, rfl, fun _ => ⟨_, rfl⟩, fun a ha => ?_⟩
    injection ha with ha
    subst ha
    refine ⟨fun _ => (Array.getElem?_eq_some_iff.1 hg).1, fun k hk => ?_⟩
    obtain ⟨e1, e2⟩ := roomV_at Rs f _ hk
    have c1 := World.ownsRow.cells h (g := g) rfl (k * 2) _ e1
    have c2 := World.ownsRow.cells h (g := g) rfl (k * 2 + 1) _ e2
    refine ⟨c1, f k, ?_, hf k hk⟩
    rw [Addr.add_lit] at c2 ⊢
    simpa [Nat.add_assoc] using c2
set_option maxRecDepth 100000 in
set_option maxHeartbeats 4000000 in
theorem plainCheck_any (W : Wnt) (vm vs : Value) (n : Int) (w : World) (hT : ErrT w) (hm : IntC w vm W.must) (hs : IntC w vs W.should) (hl : W.must.length + W.should.length ≤ 10000000) :
    Calls Tryd.prog 9 #[wantV W vm vs, .int .i64 n] w fun e w' => e = .returned (.int .i64 (wChk W n)) ∧ Below w.heap.size w w' := by
  obtain ⟨om, cm, rfl⟩ := hm.form
  obtain ⟨os, cs, rfl⟩ := hs.form
  obtain ⟨wB, hwB, ⟨hb0, hlt⟩, f0, f1, f2, f3, f4, f5, f6⟩ := want_cells W (.slice om W.must.length cm) (.slice os W.should.length cs) w
  have C1 := Lib.hid (check_any W _ _ n wB (hm.call hb0) (hs.call hb0) hl)
  have HT := Lib.hid (hT.call hb0)
  have HB0 := Lib.hid hb0
  unfold wantV at C1
  unfold wantV
  clear hm hs hT hb0 hlt hl
  go_enter Tryd.func9, Tryd.ntmps9
  go_wp2_with (first
    | (go_at_call 22; refine (C1.out).mono ?_; rintro e w2 ⟨rfl, hb2⟩; have HB2 := Lib.hid hb2; have HT2 := Lib.hid (HT.out.call hb2); clear hb2)
    | (go_at_call 19; refine (tell_any _ _ HT2.out).mono ?_; rintro e w3 ⟨rfl, hb3⟩; have HB3 := Lib.hid (thenB HB2.out hb3); clear hb3))
  go_ret
  exact ⟨rfl, thenB HB0.out HB3.out⟩
set_option maxRecDepth 100000 in
set_option maxHeartbeats 16000000 in
theorem plainFind_any (W : Wnt) (vm vs vp vr : Value) (P : List (List Iv)) (R : List Rm) (w : World) (hT : ErrT w) (hm : IntC w vm W.must) (hs : IntC w vs W.should) (hP : SetsS w vp P) (hR : RoomsS w vr R)
    (lP : ∀ l, l ∈ P → l.length ≤ 1000000) (lR : ∀ r, r ∈ R → r.2.length ≤ 1000000) (nP : P.length ≤ 1000000) (nR : R.length ≤ 1000000) (nM : W.must.length ≤ 2000000) (nS : W.should.length ≤ 2000000) (iSt : InI W.step) :
    Calls Tryd.prog 7 #[wantV W vm vs, vp, vr] w (FndPost W P R (Value.int .i64) w) := by
  obtain ⟨om, cm, rfl⟩ := hm.form
  obtain ⟨os, cs, rfl⟩ := hs.form
  obtain ⟨fp, hfp⟩ := hP.vals
  obtain ⟨fR, hfr⟩ := hR.vals
  obtain ⟨op, cp, rfl⟩ := hP.form
  obtain ⟨or, cr, rfl⟩ := hR.form
  obtain ⟨wB, hwB, ⟨hb0, hlt⟩, f0, f1, f2, f3, f4, f5, f6⟩ := want_cells W (.slice om W.must.length cm) (.slice os W.should.length cs) w
  have HB0 := Lib.hid hb0
  have HLT := Lib.hid hlt
  obtain ⟨wC, hwC⟩ : ∃ wC, wB.alloc (.cells #[.int .i64 0, .int .i64 0, .slice none 0 0] 45) = wC := ⟨_, rfl⟩
  have hbC : Below wB.heap.size wB wC := by rw [← hwC]; exact (Below.refl _ _).alloc (Nat.le_refl _) _
  have hsC : wB.heap.size < wC.heap.size := by rw [← hwC]; simp
  have HR0 : Hid (SlBx wC wB.heap.size 0 0 (.slice none 0 0)) := Lib.hid (by rw [← hwC]; exact SlBx.new _ _ _ _)
  have HSC := Lib.hid hsC
  have HBC := Lib.hid (thenB hb0 hbC)
  obtain ⟨zB, hzB⟩ : ∃ z, wB.heap.size = z := ⟨_, rfl⟩
  have HZB := Lib.hid hzB
  obtain ⟨nm, hnm⟩ : ∃ x, W.must.length = x := ⟨_, rfl⟩
  obtain ⟨ns, hns⟩ : ∃ x, W.should.length = x := ⟨_, rfl⟩
  obtain ⟨np, hnp⟩ : ∃ x, P.length = x := ⟨_, rfl⟩
  obtain ⟨nr, hnr⟩ : ∃ x, R.length = x := ⟨_, rfl⟩
  have HC : Hid (∀ w', Below wC.heap.size wC w' → w'.cell? ⟨w.heap.size, 0, none⟩ = some (.int .i64 W.len) ∧ w'.cell? ⟨w.heap.size, 1, none⟩ = some (.int .i64 W.step) ∧ w'.cell? ⟨w.heap.size, 2, none⟩ = some (.int .i64 W.frm) ∧ w'.cell? ⟨w.heap.size, 3, none⟩ = some (.int .i64 W.to) ∧ w'.cell? ⟨w.heap.size, 4, none⟩ = some (.slice om nm cm) ∧ w'.cell? ⟨w.heap.size, 5, none⟩ = some (.slice os ns cs) ∧ w'.cell? ⟨w.heap.size, 6, none⟩ = some (.int .i64 W.seats)) := Lib.hid fun w' hb => by
    have hz : w.heap.size < wC.heap.size := Nat.lt_trans hlt hsC
    have k : ∀ j, w'.cell? ⟨w.heap.size, j, none⟩ = wB.cell? ⟨w.heap.size, j, none⟩ := fun j => (hb.cell (p := ⟨w.heap.size, j, none⟩) hz).trans (hbC.cell (p := ⟨w.heap.size, j, none⟩) hlt)
    rw [hnm] at f4
    rw [hns] at f5
    exact ⟨(k 0).trans f0, (k 1).trans f1, (k 2).trans f2, (k 3).trans f3, (k 4).trans f4, (k 5).trans f5, (k 6).trans f6⟩
  have HM := Lib.hid ((hm.call hb0).call hbC)
  have HS := Lib.hid ((hs.call hb0).call hbC)
  have HTC := Lib.hid (hT.call HBC.out)
  have HFP : Hid (∀ k, k < np → ∃ oc c n, fp k = .slice oc n c ∧ IvS wC (fp k) (P.getD k []) ∧ ∃ a, op = some a ∧ ∀ w', Below wC.heap.size wC w' → w'.cell? (a.add k) = some (fp k)) := Lib.hid fun k hk => by
    obtain ⟨⟨oc, c, e⟩, h1, h2⟩ := hfp k (by omega)
    obtain ⟨a, _, _, ha, -, -⟩ := hP.at (k := k) (by omega)
    have h3 := h2 a op _ cp rfl ha
    refine ⟨oc, c, _, e, (h1.call hb0).call hbC, a, ha, fun w' hb => ?_⟩
    have hbl := World.block_lt_of_cell? _ _ h3
    exact ((hb.mono (Nat.le_trans (Nat.le_of_lt hlt) (Nat.le_of_lt hsC)) |>.cell (p := a.add k) hbl).trans ((HBC.out.cell (p := a.add k) hbl))).trans h3
  have HFR : Hid (∀ k, k < nr → ∃ oc c n, fR k = .slice oc n c ∧ IvS wC (fR k) (R.getD k rm0).2 ∧ ∃ a, or = some a ∧ ∀ w', Below wC.heap.size wC w' → w'.cell? (a.add (k * 2)) = some (.int .i64 (R.getD k rm0).1) ∧ w'.cell? { block := (a.add (k * 2)).block, off := (a.add (k * 2)).off + 1 } = some (fR k)) := Lib.hid fun k hk => by
    obtain ⟨⟨oc, c, e⟩, h1, h2⟩ := hfr k (by omega)
    obtain ⟨a, _, _, ha, -, -⟩ := hR.at (k := k) (by omega)
    obtain ⟨h3, h4⟩ := h2 a or _ cr rfl ha
    refine ⟨oc, c, _, e, (h1.call hb0).call hbC, a, ha, fun w' hb => ?_⟩
    have hbl := World.block_lt_of_cell? _ _ h3
    have hb2 := World.block_lt_of_cell? _ _ h4
    have hb' := hb.mono (Nat.le_trans (Nat.le_of_lt hlt) (Nat.le_of_lt hsC))
    exact ⟨((hb'.cell (p := a.add (k * 2)) hbl).trans (HBC.out.cell (p := a.add (k * 2)) hbl)).trans h3, ((hb'.cell (p := { block := (a.add (k * 2)).block, off := (a.add (k * 2)).off + 1 }) hb2).trans (HBC.out.cell (p := { block := (a.add (k * 2)).block, off := (a.add (k * 2)).off + 1 }) hb2)).trans h4⟩
  have CF := Lib.hid (fun vp vr w0 (hb : Below wC.heap.size wC w0) h1 h2 => find_any W _ _ vp vr P R w0 (HM.out.call hb) (HS.out.call hb) h1 h2 lP lR nR nM nS iSt)
  rw [hnm, hns] at CF
  have HNP := Lib.hid hnp
  have HNR := Lib.hid hnr
  have nP2 : np ≤ 1000000 := by omega
  have nR2 : nr ≤ 1000000 := by omega
  rw [hnm, hns] at hwB ⊢
  rw [hnp, hnr]
  rw [hzB] at HR0
  unfold wantV FndPost at CF
  unfold wantV
  obtain ⟨i0, hi0, hz0, hz1, hz2⟩ := info_parts set_info
  obtain ⟨i1, hi1, hy0, hy1, hy2⟩ := info_parts room_info
  clear hm hs hP hR hb0 hlt hbC hsC nM nS nP nR lP lR hnm hns hnp hnr f0 f1 f2 f3 f4 f5 f6 iSt hfp hfr hT
  go_enter Tryd.func7, Tryd.ntmps7
  go_upto_region 3 with fail
  try simp only [hzB, hwC]
  clear hwB hwC hzB
  go_loopw [8, 18] (fun v c wr => ∃ k : Nat, c = .int .i64 (k : Int) ∧ k ≤ np ∧ Hid (wr.ownsRow wC.heap.size 31 1 v k ((List.range k).map fp)) ∧ Hid (Below wC.heap.size wC wr)) (fun _ c _ => np - (intOf c).toNat)
  case atStart => exact ⟨0, rfl, by omega, Lib.hid (World.ownsRow_nil _ _ _ _), Lib.hid (Below.refl _ _)⟩
  case round =>
    obtain ⟨k, rfl, hk, HO, HBk⟩ := hrel
    by_cases hkn : k < np
    · obtain ⟨oc, c, n, e, hiv, a, rfl, hcell⟩ := HFP.out k hkn
      have hc := hcell wr HBk.out
      rw [e] at hc
      have HE := Lib.hid e
      have k1 : (k : Int) < (np : Int) := by omega
      have k2 : (0 : Int) ≤ (k : Int) := by omega
      have hsz : wC.heap.size ≤ wr.heap.size := HBk.out.size
      clear hcell hiv e
      go_wp2_with (at_builtin; refine wpList_append_lies _ rfl (.tmp 22) (.tmp 25) 62 rfl wC.heap.size 31 i0 (.agg #[.slice none 0 0]) 1 24 Tryd.underlying62 hi0 hz0 hz1 hz2 rfl (by decide) _ k ((List.range k).map fp) rfl ((HO.out.alloc _).alloc _) _ 1 1 [.slice oc n c] rfl rfl (cells_ivs (by simp) _ _) (by simp [Value.oneCell']) (by decide) (by unfold maxLen; omega) (by omega) (by simp; omega) (wr.heap.size + 1 + 1) (by simp) ?_; intro g5 c5 w5 hown hgrow hat hlt5; have HOW := Lib.hid hown; have HB5 := Lib.hid ((((HBk.out.alloc hsz _).alloc (by simp; omega) _).grown hgrow (by simp; omega) (fun j hj => (World.ownsRow.lt HO.out j hj).1))); clear hown hgrow hat hlt5)
      go_roundw
      case rel => exact ⟨k + 1, by go_num, by omega, Lib.hid (by rw [List.range_succ, List.map_append, List.map_singleton, HE.out]; exact HOW.out), HB5⟩
      case measure => simp [intOf]; omega
    · have hkk : k = np := by omega
      subst hkk
      have HP2 : Hid (∀ w', Below wr.heap.size wr w' → SetsS w' u8 P) := Lib.hid fun w' hb => (SetsS.own (n := k) HNP.out HO.out (fun j hj => by obtain ⟨_, _, _, _, h, _⟩ := HFP.out j hj; exact h.call HBk.out)).call hb
      obtain ⟨ou, cu, rfl⟩ := (HP2.out wr (Below.refl _ _)).form
      rw [HNP.out] at HP2 ⊢
      clear HO
      obtain ⟨wP, rfl⟩ : ∃ wo : World, wo = wr := ⟨_, rfl⟩
      have HSZ := Lib.hid HBk.out.size
      go_upto_region 9 with fail
      go_loopw [11, 30] (fun v c wx => ∃ j : Nat, c = .int .i64 (j : Int) ∧ j ≤ nr ∧ Hid (wx.ownsRow wP.heap.size 65 2 v j (roomV R fR j)) ∧ Hid (Below wP.heap.size wP wx) ∧ Hid (Below wC.heap.size wC wx)) (fun _ c _ => nr - (intOf c).toNat)
      case atStart => exact ⟨0, rfl, by omega, Lib.hid (World.ownsRow_nil _ _ _ _), Lib.hid (Below.refl _ _), HBk⟩
      case round =>
        obtain ⟨j, rfl, hj, HO, HBj, HBc⟩ := hrel
        by_cases hjn : j < nr
        · obtain ⟨oc, c, n, e, hiv, a, rfl, hcell⟩ := HFR.out j hjn
          obtain ⟨hc, hc2⟩ := hcell _ HBc.out
          rw [e] at hc2
          have HE := Lib.hid e
          obtain ⟨Sj, hSj⟩ : ∃ S, (R.getD j rm0).1 = S := ⟨_, rfl⟩
          have HSJ := Lib.hid hSj
          rw [hSj] at hc
          have k1 : (j : Int) < (nr : Int) := by omega
          have k2 : (0 : Int) ≤ (j : Int) := by omega
          have hsz : wP.heap.size ≤ wr.heap.size := HBj.out.size
          have hsz2 : wC.heap.size ≤ wr.heap.size := HBc.out.size
          clear hcell hiv e hSj
          go_wp2_with (at_builtin; refine wpList_append_lies _ rfl (.tmp 34) (.tmp 41) 63 rfl wP.heap.size 65 i1 (.agg #[.int .i64 0, .slice none 0 0]) 2 32 Tryd.underlying63 hi1 hy0 hy1 hy2 rfl (by decide) _ j (roomV R fR j) rfl ((HO.out.alloc _).alloc _) _ 1 1 [.int .i64 Sj, .slice oc n c] rfl rfl (cells_ivs (by simp) _ _) (by simp [Value.oneCell']) (by decide) (by unfold maxLen; omega) (by omega) (by simp; omega) (wr.heap.size + 1 + 1) (by simp) ?_; intro g5 c5 w5 hown hgrow hat hlt5; have HOW := Lib.hid hown; have HB5 := Lib.hid ((((HBj.out.alloc hsz _).alloc (by simp; omega) _).grown hgrow (by simp; omega) (fun q hq => (World.ownsRow.lt HO.out q hq).1))); have HB6 := Lib.hid ((((HBc.out.alloc hsz2 _).alloc (by simp; omega) _).grown hgrow (by simp; omega) (fun q hq => Nat.le_trans HSZ.out (World.ownsRow.lt HO.out q hq).1))); clear hown hgrow hat hlt5)
          go_roundw
          case rel => exact ⟨j + 1, by go_num, by omega, Lib.hid (by rw [roomV_succ, HSJ.out, HE.out]; exact HOW.out), HB5, HB6⟩
          case measure => simp [intOf]; omega
        · have hjj : j = nr := by omega
          subst hjj
          obtain ⟨wQ, rfl⟩ : ∃ wo : World, wo = wr := ⟨_, rfl⟩
          have HSZ3 := Lib.hid HBc.out.size
          have HR2 : Hid (RoomsS wQ u11 R) := Lib.hid (RoomsS.own (n := j) HNR.out HO.out (fun q hq => by obtain ⟨_, _, _, _, h, _⟩ := HFR.out q hq; exact h.call HBc.out))
          have HPQ := Lib.hid (HP2.out wQ HBj.out)
          obtain ⟨ox, cx, rfl⟩ := HR2.out.form
          rw [HNR.out] at HR2 ⊢
          clear HO
          obtain ⟨f0, f1, f2, f3, f4, f5, f6⟩ := HC.out wQ HBc.out
          have CF2 := Lib.hid (CF.out _ _ wQ HBc.out HPQ.out HR2.out)
          have HTQ := Lib.hid (HTC.out.call HBc.out)
          obtain ⟨RS, hRS⟩ : ∃ x, fndS W P R = x := ⟨_, rfl⟩
          obtain ⟨RE, hRE⟩ : ∃ x, fndE W P R = x := ⟨_, rfl⟩
          rw [hRS, hRE] at CF2
          have HRS := Lib.hid hRS
          have HRE := Lib.hid hRE
          obtain ⟨rx, rr, rm⟩ := RS
          simp only at CF2
          clear hRS hRE CF
          go_upto_region 14 with (go_at_call 18; refine (CF2.out).mono ?_; rintro e w3 ⟨v3, rfl, hv3, hb3⟩; obtain ⟨o3, c3, rfl⟩ := hv3.form; have HV3 := Lib.hid hv3; have HB3 := Lib.hid (HBc.out.trans (hb3.mono HBc.out.size)); have HT3 := Lib.hid (HTQ.out.call hb3); obtain ⟨n3, hn3⟩ : ∃ n, rm.length = n := ⟨_, rfl⟩; rw [hn3] at HV3 ⊢; have HS3 := Lib.hid (Nat.le_trans HSZ3.out hb3.size); clear hv3 hb3 hn3)
          clear f0 f1 f2 f3 f4 f5 f6
          obtain ⟨wS, hwS⟩ : ∃ W, w3.alloc (.cells #[.int .i64 rx, .int .i64 rr, .slice o3 n3 c3] 45) = W := ⟨_, rfl⟩
          obtain ⟨zS, hzS⟩ : ∃ z, w3.heap.size = z := ⟨_, rfl⟩
          have hbS : Below w3.heap.size w3 wS := by rw [← hwS]; exact (Below.refl _ _).alloc (Nat.le_refl _) _
          have HXS : Hid (SlBx wS zS rx rr (.slice o3 n3 c3)) := Lib.hid (by rw [← hwS, ← hzS]; exact SlBx.new _ _ _ _)
          have HBS := Lib.hid (HB3.out.trans (hbS.mono HB3.out.size))
          have HVS := Lib.hid (HV3.out.call hbS)
          have HTS := Lib.hid (HT3.out.call hbS)
          try simp only [hwS, hzS]
          clear hwS hzS hbS
          have x0 := cell_regrown HXS.out.c0
          have x1 := cell_regrown HXS.out.c1
          have x2 := cell_regrown HXS.out.c2
          have CT := Lib.hid (fun w0 (hb : Below wS.heap.size wS w0) => tell_any RE w0 (HTS.out.call hb))
          have hzz : w.heap.size ≤ zB := by have := HZB.out; have := HB0.out.size; omega
          have HZ8 : Hid (zB < wC.heap.size) := Lib.hid (by have := HSC.out; have := HZB.out; omega)
          have hzd : zB < wQ.heap.size := by have := HZ8.out; have := HSZ3.out; omega
          have hwq : w.heap.size ≤ wQ.heap.size := by omega
          refine wp_region_below_tail 3 (by kernel_rfl) (by kernel_rfl) ?_
          simp only [List.take_succ_cons, List.take_zero, List.drop_succ_cons, List.drop_zero]
          repeat (go_big_quiet_step ((go_at_call 19; exact Calls.regrown_of (by with_reducible exact CT.out _ (below_regrown _ _ _)))))
          refine wpQuiet_nil ?_
          intro w4 hb4
          have HR4 := Lib.hid (HR0.out.call (HBS.out.trans (hb4.mono HBS.out.size)) HZ8.out)
          have r0 := HR4.out.c0
          have r1 := HR4.out.c1
          have r2 := HR4.out.c2
          have q0 := HR4.out.f0
          have q1 := HR4.out.f1
          have q2 := HR4.out.f2
          have HV4 := Lib.hid (HVS.out.call hb4)
          have HW4 := Lib.hid (thenB HBC.out (HBS.out.trans (hb4.mono HBS.out.size)))
          clear hb4 x0 x1 x2
          go_wp2_with fail
          have HG := HR4.out.put rx rr (.slice o3 n3 c3)
          refine bodyPost_ret (v := .tuple #[.agg #[.int .i64 rx, .int .i64 rr, .slice o3 n3 c3], .int .i64 RE]) (by simp [results, Tryd.results7, go_sem, HG.c0, HG.c1, HG.c2]) rfl ?_
          unfold FndPost
          rw [HRS.out, HRE.out]
          exact ⟨.slice o3 n3 c3, rfl, IntL.low (IntL.far (IntL.far (IntL.far HV4.out (p := ⟨zB, 0, none⟩) hzd _) (p := ⟨zB, 1, none⟩) hzd _) (p := ⟨zB, 2, none⟩) hzd _) hwq, below_put3 HW4.out hzz _ _ _⟩
end Go.Proofs.YtbmndenopgkpoaaDoor
