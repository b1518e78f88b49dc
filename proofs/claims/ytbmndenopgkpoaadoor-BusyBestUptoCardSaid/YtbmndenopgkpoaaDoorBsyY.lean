/- The walk of the law BusyBest. -/
import Derived.Test.YtbmndenopgkpoaaDoorBsyV
import Derived.Test.YtbmndenopgkpoaaDoorBsyW
import Derived.Test.YtbmndenopgkpoaaDoorBsyXb
namespace Go.Proofs.YtbmndenopgkpoaaDoor
open Go.RowKit Wrk Go.Shelf
theorem PairI.set {X : (Nat → Value) → Nat → List Value} {w : World} {b : Nat} {e1 e2 : TypeId} {sz k1 : Nat} {v1 v2 : Value} {f g : Nat → Value} {PP : Nat → List Iv} (h : PairI X w b e1 e2 sz v1 v2 k1 0 f g PP) {Z o : Nat} (hZ : Z < b) (hf : ∀ j, j < k1 → ∀ a n c, f j = .slice (some a) n c → b ≤ a.block) (u : Value) : PairI X (w.setCell ⟨Z, o, none⟩ u) b e1 e2 sz v1 v2 k1 0 f g PP :=
  ⟨ivOwn_far h.r1 (fun k hk => by have := (World.ownsRow.lt h.r1 k hk).1; show k ≠ Z; omega) u, ivOwn_far h.r2 (fun k hk => by have := (World.ownsRow.lt h.r2 k hk).1; show k ≠ Z; omega) u, h.ne, fun j hj => ⟨(h.s1 j hj).1.far (fun a c n e => by have := hf j hj a n c e; omega) _ _, (h.s1 j hj).2⟩, fun j hj => absurd hj (by omega)⟩
/-- What turns the law away. -/
def TooB (np : Nat) (st Q : Int) (wB : World) (q : Value) (wx : World) : Prop := ∃ T : Bool, q = .bool T ∧ (T = false → np ≤ 12 ∧ (0 < st → ¬ (400 < Q ∧ Q ≤ 10000))) ∧ wB = wx
def FIff (F : Bool) (FS : Option Sl) (A : Int) (M : Bool) : Prop := F = true ↔ FndB FS A M
theorem best_q {W : Wnt} {n : Int} (h : wChk W n = 0) (hq : 0 < W.step → ¬ (400 < wrap64 ((wrap64 (W.to - W.frm)).tdiv W.step) ∧ wrap64 ((wrap64 (W.to - W.frm)).tdiv W.step) ≤ 10000)) : (W.to - W.frm) / W.step ≤ 400 := by
  obtain ⟨l1, l2, st1, s1, ft, fr1, tt1, _⟩ := wChk_ok h
  have hq2 := hq (by omega)
  have e1 : wrap64 (W.to - W.frm) = W.to - W.frm := wrap_in (InI.mk (by omega) (by omega))
  have e2 : (W.to - W.frm).tdiv W.step = (W.to - W.frm) / W.step := Int.tdiv_eq_ediv_of_nonneg (by omega)
  have e3 : 0 ≤ (W.to - W.frm) / W.step := Int.ediv_nonneg (by omega) (by omega)
  have e4 : (W.to - W.frm) / W.step ≤ W.to - W.frm := Int.ediv_le_self _ (by omega)
  rw [e1, e2, wrap_in (InI.mk (by omega) (by omega))] at hq2
  unfold wChk at h
  split at h
  · omega
  · split at h
    · omega
    · split at h
      · omega
      · omega
set_option maxRecDepth 100000 in
set_option maxHeartbeats 32000000 in
theorem busyBest_walk (W : Wnt) (vm vs v1 : Value) (LP : List (List Iv)) (w : World) (hT : ErrT w) (hm : IntC w vm W.must) (hs : IntC w vs W.should) (hP : SetsS w v1 LP)
    (nM : W.must.length + W.should.length ≤ 1048576) (iSt : InI W.step) :
    Calls Tryd.prog 4 #[wantV W vm vs, v1] w fun e w' => e = .returned (.bool true) ∧ Below w.heap.size w w' := by
  obtain ⟨om, cm, rfl⟩ := hm.form
  obtain ⟨os, cs, rfl⟩ := hs.form
  obtain ⟨op, cp, rfl⟩ := hP.form
  obtain ⟨wB, hwB, ⟨hb0, hlt⟩, f0, f1, f2, f3, f4, f5, f6⟩ := want_cells W (.slice om W.must.length cm) (.slice os W.should.length cs) w
  have hz6 : wB.frozen? ⟨w.heap.size, 6, none⟩ = false := by rw [← hwB]; simp
  obtain ⟨nm, hnm⟩ : ∃ x, W.must.length = x := ⟨_, rfl⟩
  obtain ⟨ns, hns⟩ : ∃ x, W.should.length = x := ⟨_, rfl⟩
  obtain ⟨np, hnp⟩ : ∃ x, LP.length = x := ⟨_, rfl⟩
  have HB0 := Lib.hid hb0
  have HLT := Lib.hid hlt
  have HM0 := Lib.hid (fun w' (hb : Below w.heap.size w w') => hm.call hb)
  have HS0 := Lib.hid (fun w' (hb : Below w.heap.size w w') => hs.call hb)
  have HT0 := Lib.hid (fun w' (hb : Below w.heap.size w w') => hT.call hb)
  have HP := Lib.hid (hP.call hb0)
  have HNN := Lib.hid nM
  have HC : Hid (∀ w', Below wB.heap.size wB w' → (w'.cell? ⟨w.heap.size, 0, none⟩ = some (.int .i64 W.len) ∧ w'.cell? ⟨w.heap.size, 1, none⟩ = some (.int .i64 W.step) ∧ w'.cell? ⟨w.heap.size, 2, none⟩ = some (.int .i64 W.frm) ∧ w'.cell? ⟨w.heap.size, 3, none⟩ = some (.int .i64 W.to) ∧ w'.cell? ⟨w.heap.size, 4, none⟩ = some (.slice om nm cm) ∧ w'.cell? ⟨w.heap.size, 5, none⟩ = some (.slice os ns cs) ∧ w'.cell? ⟨w.heap.size, 6, none⟩ = some (.int .i64 W.seats)) ∧ w'.frozen? ⟨w.heap.size, 6, none⟩ = false) := Lib.hid fun w' hb => by
    have k : ∀ j, w'.cell? ⟨w.heap.size, j, none⟩ = wB.cell? ⟨w.heap.size, j, none⟩ := fun j => hb.cell (p := ⟨w.heap.size, j, none⟩) hlt
    rw [hnm] at f4
    rw [hns] at f5
    exact ⟨⟨(k 0).trans f0, (k 1).trans f1, (k 2).trans f2, (k 3).trans f3, (k 4).trans f4, (k 5).trans f5, (k 6).trans f6⟩, (hb.frozen (p := ⟨w.heap.size, 6, none⟩) hlt).trans hz6⟩
  have HLN := Lib.hid (And.intro hnm (And.intro hns hnp))
  have HST := Lib.hid iSt
  rw [hnm, hns] at hwB ⊢
  rw [hnp]
  unfold wantV
  clear hm hs hP hT hb0 nM hnm hns hnp iSt f0 f1 f2 f3 f4 f5 f6 hz6 hlt
  obtain ⟨i1, hi1, hy0, hy1, hy2⟩ := info_parts ptimes_info
  have HI1 := Lib.hid (And.intro hi1 (And.intro hy0 (And.intro hy1 hy2)))
  clear hi1 hy0 hy1 hy2
  go_enter Tryd.func4, Tryd.ntmps4
  go_upto_region 1 with fail
  try simp only [hwB]
  clear hwB
  obtain ⟨ln, hln⟩ : ∃ x, W.len = x := ⟨_, rfl⟩
  obtain ⟨st, hst⟩ : ∃ x, W.step = x := ⟨_, rfl⟩
  obtain ⟨fr, hfr⟩ : ∃ x, W.frm = x := ⟨_, rfl⟩
  obtain ⟨tt, htt⟩ : ∃ x, W.to = x := ⟨_, rfl⟩
  have HSW := Lib.hid (And.intro hln (And.intro hst (And.intro hfr htt)))
  rw [hln, hst, hfr, htt] at HC
  rw [hst] at HST
  clear hln hst hfr htt
  obtain ⟨⟨-, f1, f2, f3, -⟩, -⟩ := HC.out wB (Below.refl _ _)
  go_cut [46] from 17 to 45 (fun q wx => TooB np st (wrap64 ((wrap64 (tt - fr)).tdiv st)) wB q wx)
  case first =>
    by_cases h1 : 12 < np
    · have k1 : (12 : Int) < (np : Int) := by omega
      go_wp2_with fail
      go_meet
      exact ⟨true, rfl, fun h => (by cases h), rfl⟩
    · have k1 : ¬ (12 : Int) < (np : Int) := by omega
      by_cases h3 : 0 < st
      · have k3 : ¬ st = 0 := by omega
        by_cases h4 : 400 < wrap64 ((wrap64 (tt - fr)).tdiv st)
        · by_cases h5 : wrap64 ((wrap64 (tt - fr)).tdiv st) ≤ 10000
          · go_wp2_with fail
            go_meet
            exact ⟨true, rfl, fun h => (by cases h), rfl⟩
          · go_wp2_with fail
            go_meet
            exact ⟨false, rfl, fun _ => ⟨by omega, fun _ h => (by omega)⟩, rfl⟩
        · go_wp2_with fail
          go_meet
          exact ⟨false, rfl, fun _ => ⟨by omega, fun _ h => (by omega)⟩, rfl⟩
      · have k3 : decide (0 < st) = false := decide_eq_false h3
        go_wp2_with fail
        go_meet
        exact ⟨false, rfl, fun _ => ⟨by omega, fun h => (by omega)⟩, rfl⟩
  case rest =>
    obtain ⟨T, rfl, HTO, rfl⟩ := hcut
    clear f1 f2 f3
    cases T with
    | true =>
      go_wp2_with fail
      go_ret
      exact ⟨rfl, HB0.out⟩
    | false =>
      have HTO2 := Lib.hid (HTO rfl)
      have hnp12 : np ≤ 12 := HTO2.out.1
      clear HTO
      go_upto_region 5 with fail
      obtain ⟨wC, hwC⟩ : ∃ W, wB.alloc (.cells #[.slice none 0 0] 27) = W := ⟨_, rfl⟩
      obtain ⟨zL, hzL⟩ : ∃ z, wB.heap.size = z := ⟨_, rfl⟩
      have HO0 : Hid (One wC zL (.slice none 0 0)) := Lib.hid (by rw [← hwC, ← hzL]; exact One.new _ _ _)
      have HBC : Hid (Below wB.heap.size wB wC) := Lib.hid (by rw [← hwC]; exact (Below.refl _ _).alloc (Nat.le_refl _) _)
      have HSC : Hid (zL < wC.heap.size) := Lib.hid (by rw [← hwC, ← hzL]; simp)
      have HZL := Lib.hid hzL
      try simp only [hwC, hzL]
      clear hwC hzL
      go_loopw [6] (fun c wr => ∃ (k : Nat) (v : Value) (f g : Nat → Value), c = .int .i64 (k : Int) ∧ k ≤ np ∧ Hid (One wr zL v) ∧ Hid (PairI setV wr wC.heap.size 33 33 1 v (.slice none 0 0) k 0 f g (timS LP)) ∧ Hid (Below wB.heap.size wB wr) ∧ Hid (wC.heap.size ≤ wr.heap.size) ∧ Hid (∀ i, i < k → (timS LP i).length ≤ 64) ∧ Hid (∀ j, j < k → ∀ a n c, f j = .slice (some a) n c → wC.heap.size ≤ a.block)) (fun c _ => np - (intOf c).toNat)
      case atStart => exact ⟨0, _, fun _ => .slice none 0 0, fun _ => .slice none 0 0, rfl, by omega, HO0, Lib.hid (PairI.start setV _ _ _ _ _ _ _ _ rfl rfl), HBC, Lib.hid (Nat.le_refl _), Lib.hid (fun i h => absurd h (by omega)), Lib.hid (fun i h => absurd h (by omega))⟩
      case round =>
        obtain ⟨k, v, f, g, rfl, hk, HO, HPI, HBk, HSk, HL1, HA1⟩ := hrel
        obtain ⟨ov, cv, rfl⟩ : ∃ oa c, v = .slice oa k c := by
          rcases HPI.out.r1.2 with ⟨h, h0⟩ | ⟨_, c', _, h, _⟩
          · exact ⟨none, 0, by rw [h, h0]⟩
          · exact ⟨_, c', h⟩
        by_cases hkn : k < np
        · have HZr : Hid (zL < wr.heap.size) := Lib.hid (Nat.lt_of_lt_of_le HSC.out HSk.out)
          have hk' : k < LP.length := by rw [HLN.out.2.2]; exact hkn
          obtain ⟨ap, oc, c, rfl, hcp, hiv⟩ := HP.out.at hk'
          have HTS : Hid ((timS LP k).length ≤ (LP.getD k []).length) := Lib.hid (timS_ok LP k).2
          obtain ⟨Lk, hLk⟩ : ∃ L, LP.getD k [] = L := ⟨_, rfl⟩
          have HTQ : Hid (timS LP k = foldD [] (clipL Lk)) := Lib.hid (by rw [← hLk]; rfl)
          rw [hLk] at hcp hiv HTS
          have HIV := Lib.hid hiv
          obtain ⟨nx, hnx⟩ : ∃ n, Lk.length = n := ⟨_, rfl⟩
          have HNX := Lib.hid hnx
          rw [hnx] at hcp HIV
          have HCP := Lib.hid (fun w' (hb : Below wB.heap.size wB w') => (hb.cell (World.block_lt_of_cell? _ _ hcp)).trans hcp)
          have cr := HCP.out wr HBk.out
          have k1 : (k : Int) < (np : Int) := by omega
          have k2 : (0 : Int) ≤ (k : Int) := by omega
          clear hLk hiv hnx hcp
          by_cases hbig : 64 < nx
          · have k3 : (64 : Int) < (nx : Int) := by omega
            go_wp2_with fail
            go_ret
            exact ⟨rfl, thenB HB0.out HBk.out⟩
          · have k3 : ¬ (64 : Int) < (nx : Int) := by omega
            have HL2 : Hid (∀ i, i < k + 1 → (timS LP i).length ≤ 64) := Lib.hid fun i hi => by
              by_cases e : i = k
              · subst e; have := HTS.out; have := HNX.out; omega
              · exact HL1.out i (by omega)
            have CP := Lib.hid (fun w0 (hb : Below wB.heap.size wB w0) => ptimes_any _ Lk w0 (HIV.out.call hb) (by have := HNX.out; omega))
            go_upto_region 9 with fail
            have x0 := HO.out.1
            have x1 := HO.out.2
            go_region_law (first
              | (go_simp; go_at_call 5; refine (CP.out _ (by repeat (first | with_reducible exact Below.refl _ _ | with_reducible exact HBk.out | (with_reducible refine Below.drew ?_) | (with_reducible refine Below.alloc ?_ (by first | exact Nat.le_refl _ | exact (HBk.out).size | (have := (HBk.out).size; simp <;> omega)) _) | (with_reducible refine Below.setCell ?_ (by have := HZL.out; first | omega | (simp; omega)) _)))).mono ?_; rintro e w2 ⟨v2, o2, rfl, hof, hv2, hnw, hb2⟩; obtain rfl : o2 = timS LP k := (hof.one (foldD_of Lk)).trans HTQ.out.symm; obtain ⟨oc2, c2, rfl, -, -⟩ := id hv2; obtain ⟨n2, hn2⟩ : ∃ n, (timS LP k).length = n := ⟨_, rfl⟩; have HV2 := Lib.hid hv2; have HNW : Hid (NewV wr.heap.size (.slice oc2 (timS LP k).length c2)) := Lib.hid hnw; have HBW := Lib.hid ((show Below wr.heap.size wr _ from (by repeat (first | with_reducible exact Below.refl _ _ | with_reducible exact Below.refl _ _ | (with_reducible refine Below.drew ?_) | (with_reducible refine Below.alloc ?_ (by first | exact Nat.le_refl _ | exact (Below.refl _ _).size | (have := (Below.refl _ _).size; simp <;> omega)) _) | (with_reducible refine Below.setCell ?_ (by have := HZL.out; first | omega | (simp; omega)) _)))).trans (hb2.mono (by first | exact Nat.le_refl _ | simp))); have HB2 := Lib.hid (HBk.out.trans (HBW.out.mono HBk.out.size)); have HO2 := Lib.hid (HO.out.call HBW.out HZr.out); have y0 := HO2.out.1; have y1 := HO2.out.2; have y2 := Nat.lt_of_lt_of_le HZr.out HBW.out.size; rw [hn2] at HV2 HNW ⊢; clear hof hv2 hnw hb2 hn2)
              | (refine step_append_lies _ rfl (.tmp 59) (.tmp 65) 27 rfl wC.heap.size 33 i1 (.agg #[.slice none 0 0]) 1 24 Tryd.underlying27 HI1.out.1 HI1.out.2.1 HI1.out.2.2.1 HI1.out.2.2.2 rfl (by decide) (.slice ov k cv) k (setV f k) (by simp [Act.eval]) (ivOwn_call HPI.out.r1 (by repeat (first | with_reducible exact Below.refl _ _ | with_reducible exact HBW.out | (with_reducible refine Below.drew ?_) | (with_reducible refine Below.alloc ?_ (by first | exact Nat.le_refl _ | exact (HBW.out).size | (have := (HBW.out).size; simp <;> omega)) _) | (with_reducible refine Below.setCell ?_ (by have := HZL.out; first | omega | (simp; omega)) _)))) ⟨w2.heap.size, 0, none⟩ 1 1 [Value.slice oc2 n2 c2] (by simp [Act.eval]) rfl (cells_ivs (by simp) _ _) (by simp [Value.oneCell']) (by decide) (by unfold maxLen; omega) (by omega) (by have h5 := HBW.out.size; have h6 := HSk.out; simp; omega) (w2.heap.size + 1) (by simp) ?_; intro g5 c5 w5 hown hgrow hat hlt; have HPJ := Lib.hid (HPI.out.put1 (by repeat (first | with_reducible exact Below.refl _ _ | with_reducible exact HBW.out | (with_reducible refine Below.drew ?_) | (with_reducible refine Below.alloc ?_ (by first | exact Nat.le_refl _ | exact (HBW.out).size | (have := (HBW.out).size; simp <;> omega)) _) | (with_reducible refine Below.setCell ?_ (by have := HZL.out; first | omega | (simp; omega)) _))) (HV2.out.call (by repeat (first | with_reducible exact Below.refl _ _ | with_reducible exact Below.refl _ _ | (with_reducible refine Below.drew ?_) | (with_reducible refine Below.alloc ?_ (by first | exact Nat.le_refl _ | exact (Below.refl _ _).size | (have := (Below.refl _ _).size; simp <;> omega)) _) | (with_reducible refine Below.setCell ?_ (by have := HZL.out; first | omega | (simp; omega)) _)))) HNW.out hgrow hown hat (by simp) (setV_upd _ _ _)); have HBX := Lib.hid (Below.grown (B := wC.heap.size) (a := wr) ((show Below wr.heap.size wr _ from (by repeat (first | with_reducible exact Below.refl _ _ | with_reducible exact HBW.out | (with_reducible refine Below.drew ?_) | (with_reducible refine Below.alloc ?_ (by first | exact Nat.le_refl _ | exact (HBW.out).size | (have := (HBW.out).size; simp <;> omega)) _) | (with_reducible refine Below.setCell ?_ (by have := HZL.out; first | omega | (simp; omega)) _)))).mono HSk.out) hgrow (by have h5 := HBW.out.size; have h6 := HSk.out; simp; omega) (fun q hq => (World.ownsRow.lt HPI.out.r1 q hq).1)); have HB5 := Lib.hid (HBk.out.trans (HBX.out.mono HBC.out.size)); have HO5 := Lib.hid (HO.out.call HBX.out HSC.out); have x0 := HO5.out.1; have x1 := HO5.out.2; have HNA : Hid (∀ j, j < k + 1 → ∀ a n c, updF f k (.slice oc2 n2 c2) j = .slice (some a) n c → wC.heap.size ≤ a.block) := Lib.hid (fun j hj a n c e => if ej : j = k then Nat.le_trans HSk.out (HNW.out a n c (by rw [ej, updF_at] at e; exact e)) else HA1.out j (by omega) a n c (by rw [updF_ne ej] at e; exact e)); clear hown hgrow hat hlt))
            all_goals go_wp2_with fail
            all_goals go_roundw
            all_goals first
              | (simp [intOf]; omega)
              | exact ⟨k + 1, _, _, _, by go_num, by omega, Lib.hid (HO5.out.set _), Lib.hid (HPJ.out.set HSC.out HNA.out _), Lib.hid (HB5.out.setCell (p := ⟨zL, 0, none⟩) (by have := HZL.out; show wB.heap.size ≤ zL; omega) _), Lib.hid (by have h1 := HBX.out.size; have h2 := HSk.out; simp; omega), HL2, HNA⟩
        · have hkk : k = np := by omega
          subst hkk
          obtain ⟨wQ, hwQ⟩ : ∃ W' : World, wr.setCell ⟨w.heap.size, 6, none⟩ (.int .i64 0) = W' := ⟨_, rfl⟩
          have hzc : w.heap.size < wC.heap.size := Nat.lt_of_lt_of_le HLT.out HBC.out.size
          obtain ⟨⟨f0, f1, f2, f3, f4, f5, f6⟩, z6⟩ := HC.out wr HBk.out
          have HPQ : Hid (PairI setV wQ wC.heap.size 33 33 1 (.slice ov k cv) (.slice none 0 0) k 0 f g (timS LP)) := Lib.hid (by rw [← hwQ]; exact HPI.out.set hzc HA1.out _)
          have HPS : Hid (SetsS wQ (.slice ov k cv) (timL LP)) := Lib.hid (SetsS.own (n := k) ((timL_len LP).trans HLN.out.2.2) HPQ.out.r1 (fun j hj => by rw [timL_at (by rw [HLN.out.2.2]; exact hj)]; exact (HPQ.out.s1 j hj).1))
          have HBQ : Hid (Below w.heap.size w wQ) := Lib.hid (by rw [← hwQ]; exact (thenB HB0.out HBk.out).setCell (p := ⟨w.heap.size, 6, none⟩) (Nat.le_refl _) _)
          have HOQ : Hid (One wQ zL (.slice ov k cv)) := Lib.hid (by rw [← hwQ]; exact HO.out.far (by have := HZL.out; have := HLT.out; omega) _)
          have HSZ : Hid (w.heap.size < wQ.heap.size ∧ zL < wQ.heap.size) := Lib.hid (by
            have e : wQ.heap.size = wr.heap.size := by rw [← hwQ]; simp
            have h1 := HSk.out
            have h2 := HSC.out
            rw [e]
            omega)
          have HCQ : Hid (∀ w', Below wQ.heap.size wQ w' → w'.cell? ⟨w.heap.size, 0, none⟩ = some (.int .i64 ln) ∧ w'.cell? ⟨w.heap.size, 1, none⟩ = some (.int .i64 st) ∧ w'.cell? ⟨w.heap.size, 2, none⟩ = some (.int .i64 fr) ∧ w'.cell? ⟨w.heap.size, 3, none⟩ = some (.int .i64 tt) ∧ w'.cell? ⟨w.heap.size, 4, none⟩ = some (.slice om nm cm) ∧ w'.cell? ⟨w.heap.size, 5, none⟩ = some (.slice os ns cs) ∧ w'.cell? ⟨w.heap.size, 6, none⟩ = some (.int .i64 0)) := Lib.hid fun w' hb => by
            have kk : ∀ j, w'.cell? ⟨w.heap.size, j, none⟩ = wQ.cell? ⟨w.heap.size, j, none⟩ := fun j => hb.cell (p := ⟨w.heap.size, j, none⟩) HSZ.out.1
            have hh := want_set f0 f1 f2 f3 f4 f5 f6 (.int .i64 0)
            rw [hwQ] at hh
            obtain ⟨g0, g1, g2, g3, g4, g5, g6⟩ := hh
            exact ⟨(kk 0).trans g0, (kk 1).trans g1, (kk 2).trans g2, (kk 3).trans g3, (kk 4).trans g4, (kk 5).trans g5, (kk 6).trans g6⟩
          have HOW : Hid (∀ w', Below wQ.heap.size wQ w' → w'.cell? ⟨zL, 0, none⟩ = some (.slice ov k cv)) := Lib.hid fun w' hb => (HOQ.out.call hb HSZ.out.2).1
          clear HPQ HPI HO hzc f0 f1 f2 f3 f4 f5
          go_upto_region 11 with fail
          try simp only [hwQ]
          clear hwQ f6 z6
          obtain ⟨W0, hW0⟩ : ∃ X : Wnt, X = { W with seats := 0 } := ⟨_, rfl⟩
          have HW0 : Hid (W0.len = ln ∧ W0.step = st ∧ W0.frm = fr ∧ W0.to = tt ∧ W0.must = W.must ∧ W0.should = W.should ∧ W0.seats = 0) := Lib.hid (by subst hW0; exact ⟨HSW.out.1, HSW.out.2.1, HSW.out.2.2.1, HSW.out.2.2.2, rfl, rfl, rfl⟩)
          clear hW0
          obtain ⟨P, hPP⟩ : ∃ P, timL LP = P := ⟨_, rfl⟩
          have HPL : Hid (P.length = k) := Lib.hid (by rw [← hPP, timL_len]; exact HLN.out.2.2)
          have HLP : Hid (∀ l, l ∈ P → Norm l ∧ l.length ≤ 10000) := Lib.hid fun l hl => by
            rw [← hPP] at hl
            obtain ⟨i, hi, rfl⟩ := List.mem_map.1 hl
            have h2 := HL1.out i (by have := List.mem_range.1 hi; rw [HLN.out.2.2] at this; exact this)
            exact ⟨(timS_ok LP i).1, by omega⟩
          rw [hPP] at HPS
          clear hPP HL1 HA1 HP
          have C1 : Hid (Calls Tryd.prog 7 #[wantV W0 (.slice om nm cm) (.slice os ns cs), .slice ov k cv, .slice none 0 0] wQ (FndPost W0 P [] (Value.int .i64) wQ)) := Lib.hid (by
            have h1 := HM0.out wQ HBQ.out
            have h2 := HS0.out wQ HBQ.out
            have h3 := HNN.out
            rw [HLN.out.1] at h1 h3
            rw [HLN.out.2.1] at h2 h3
            exact plainFind_any W0 _ _ _ _ P [] wQ (HT0.out wQ HBQ.out) (by rw [HW0.out.2.2.2.2.1]; exact h1) (by rw [HW0.out.2.2.2.2.2.1]; exact h2) HPS.out (RoomsS.nil _) (fun l h => by have := (HLP.out l h).2; omega) (fun r h => by cases h) (by rw [HPL.out]; omega) (by simp) (by rw [HW0.out.2.2.2.2.1, HLN.out.1]; omega) (by rw [HW0.out.2.2.2.2.2.1, HLN.out.2.1]; omega) (by rw [HW0.out.2.1]; exact HST.out))
          have C3 : Hid (∀ w0, Below wQ.heap.size wQ w0 → Calls Tryd.prog 9 #[wantV W0 (.slice om nm cm) (.slice os ns cs), .int .i64 (k : Int)] w0 fun e w' => e = .returned (.int .i64 (wChk W0 (k : Int))) ∧ Below w0.heap.size w0 w') := Lib.hid (fun w0 hb => by
            have hb2 := thenB HBQ.out hb
            have h1 := HM0.out w0 hb2
            have h2 := HS0.out w0 hb2
            have h3 := HNN.out
            rw [HLN.out.1] at h1 h3
            rw [HLN.out.2.1] at h2 h3
            exact plainCheck_any W0 _ _ (k : Int) w0 (HT0.out w0 hb2) (by rw [HW0.out.2.2.2.2.1]; exact h1) (by rw [HW0.out.2.2.2.2.2.1]; exact h2) (by rw [HW0.out.2.2.2.2.1, HW0.out.2.2.2.2.2.1, HLN.out.1, HLN.out.2.1]; omega))
          have HFB := Lib.hid (fnd_bad (W := W0) (P := P) (R := []))
          have HFN := Lib.hid (fnd_none (W := W0) (P := P) (R := []))
          have HFS := Lib.hid (fun c => fnd_some (W := W0) (P := P) (R := []) (c := c))
          have HWK := Lib.hid (fun h => wChk_ok (W := W0) (n := (k : Int)) h)
          have HWQ := Lib.hid (fun h1 h2 => best_q (W := W0) (n := (k : Int)) h1 h2)
          obtain ⟨RS, hRS⟩ : ∃ x, fndS W0 P [] = x := ⟨_, rfl⟩
          obtain ⟨RE, hRE⟩ : ∃ x, fndE W0 P [] = x := ⟨_, rfl⟩
          obtain ⟨CK, hCK⟩ : ∃ x, wChk W0 (k : Int) = x := ⟨_, rfl⟩
          unfold wantV FndPost at C1
          unfold wantV at C3
          rw [hRS, hRE] at C1 HFB
          simp only [hRS, hRE, HPL.out, hCK] at HFB HFN HFS
          rw [hCK] at C3 HWK HWQ
          rw [HW0.out.1, HW0.out.2.1, HW0.out.2.2.1, HW0.out.2.2.2.1, HW0.out.2.2.2.2.2.2] at C1 C3
          rw [HW0.out.2.1, HW0.out.2.2.1, HW0.out.2.2.2.1] at HWQ
          rw [HW0.out.1, HW0.out.2.1, HW0.out.2.2.1, HW0.out.2.2.2.1, HW0.out.2.2.2.2.1, HW0.out.2.2.2.2.2.1] at HWK
          obtain ⟨rx, rr, rm⟩ := RS
          simp only at C1
          clear hRS hRE hCK
          obtain ⟨f0, f1, f2, f3, f4, f5, f6⟩ := HCQ.out wQ (Below.refl _ _)
          have o0 := HOW.out wQ (Below.refl _ _)
          go_upto_region 12 with (go_at_call 7; refine (C1.out).mono ?_; rintro e w3 ⟨v3, rfl, hv3, hb3⟩; obtain ⟨o3, c3, rfl⟩ := hv3.form; have HV3 := Lib.hid hv3; have HB3 := Lib.hid hb3; obtain ⟨n3, hn3⟩ : ∃ n, rm.length = n := ⟨_, rfl⟩; have HN3 := Lib.hid hn3; rw [hn3] at HV3 ⊢; clear hv3 hb3 hn3)
          clear f0 f1 f2 f3 f4 f5 f6 o0
          obtain ⟨wS, hwS⟩ : ∃ W, w3.alloc (.cells #[.int .i64 rx, .int .i64 rr, .slice o3 n3 c3] 45) = W := ⟨_, rfl⟩
          obtain ⟨zS, hzS⟩ : ∃ z, w3.heap.size = z := ⟨_, rfl⟩
          have hbS : Below w3.heap.size w3 wS := by rw [← hwS]; exact (Below.refl _ _).alloc (Nat.le_refl _) _
          have HXS : Hid (SlBx wS zS rx rr (.slice o3 n3 c3)) := Lib.hid (by rw [← hwS, ← hzS]; exact SlBx.new _ _ _ _)
          have HBS := Lib.hid (HB3.out.trans (hbS.mono HB3.out.size))
          have HZS : Hid (zS < wS.heap.size) := Lib.hid (by rw [← hwS, ← hzS]; simp)
          try simp only [hwS, hzS]
          clear hwS hzS hbS
          obtain ⟨f0, f1, f2, f3, f4, f5, f6⟩ := HCQ.out wS HBS.out
          have o0 := HOW.out wS HBS.out
          go_upto_region 13 with (go_at_call 9; refine (C3.out _ HBS.out).mono ?_; rintro e w4 ⟨rfl, hb4⟩; have HB4 := Lib.hid hb4; clear hb4)
          clear f0 f1 f2 f3 f4 f5 f6 o0 C1 C3
          have HBN := Lib.hid (HBS.out.trans (HB4.out.mono HBS.out.size))
          have HXN := Lib.hid (HXS.out.call HB4.out HZS.out)
          have HZN : Hid (zS < w4.heap.size) := Lib.hid (Nat.lt_of_lt_of_le HZS.out HB4.out.size)
          by_cases hck : CK = 0
          · obtain ⟨l1, l2, st1, -, ft, fr1, tt1, who⟩ := HWK.out hck
            have HWHO := Lib.hid who
            have HMW0 := Lib.hid (fun x hx => who x (List.mem_append_left _ hx))
            have HSH0 := Lib.hid (fun x hx => who x (List.mem_append_right _ hx))
            have q1 : ¬ 400 < (tt - fr) / st := by have hq4 := HWQ.out hck HTO2.out.2; omega
            have k1 : ¬ ln < 1 := by omega
            have k2 : ¬ st < 1 := by omega
            have k3 : ¬ tt < fr := by omega
            have k4 : ¬ fr < -345600086399 := by omega
            have k5 : ¬ 345600086399 < tt := by omega
            have k6 : ¬ st = 0 := by omega
            subst hck
            clear who HWK HWQ HFB
            obtain ⟨f0, f1, f2, f3, f4, f5, f6⟩ := HCQ.out w4 HBN.out
            go_upto_region 17 with fail
            clear f0 f1 f2 f3 f6 q1 k1 k2 k3 k4 k5 k6
            obtain ⟨LL, hLL⟩ : ∃ x, W.must ++ W.should = x := ⟨_, rfl⟩
            have HLL : Hid (∀ x, x ∈ LL → 0 ≤ x ∧ x < (k : Int)) := Lib.hid (by rw [← hLL]; exact HWHO.out)
            obtain ⟨nn, hnn⟩ : ∃ x, LL.length = x := ⟨_, rfl⟩
            have HNS := Lib.hid hnn
            have HNZ : Hid (nm + ns = nn) := Lib.hid (by rw [← hnn, ← hLL, List.length_append, HLN.out.1, HLN.out.2.1])
            have hnl : nn ≤ 1048576 := by
              have h1 := HNN.out
              have h2 := HNZ.out
              rw [HLN.out.1, HLN.out.2.1] at h1
              omega
            have b1 : nm ≤ 10000000 := by have := HNZ.out; omega
            have b2 : nm + ns ≤ 10000000 := by have := HNZ.out; omega
            obtain ⟨i0, hi0, hw0, hw1, hw2⟩ := info_parts int_infoB
            have HI := Lib.hid (And.intro hi0 (And.intro hw0 (And.intro hw1 hw2)))
            have HCC : Hid (∀ wx, Below w4.heap.size w4 wx → wx.cell? ⟨w.heap.size, 4, none⟩ = some (.slice om nm cm) ∧ wx.cell? ⟨w.heap.size, 5, none⟩ = some (.slice os ns cs)) := Lib.hid fun wx hb => by
              have h1 := HCQ.out wx (HBN.out.trans (hb.mono HBN.out.size))
              exact ⟨h1.2.2.2.2.1, h1.2.2.2.2.2.1⟩
            have HBW4 := Lib.hid (thenB HBQ.out HBN.out)
            have HN1 : Hid (∀ wx, Below w4.heap.size w4 wx → ((Value.slice om nm cm = .slice none 0 0 ∧ nm = 0 ∧ intV W.must = []) ∨ ∃ ad c, Value.slice om nm cm = .slice (some ad) nm c ∧ (intV W.must).length = nm * 1 ∧ (∀ j u, (intV W.must)[j]? = some u → wx.cell? (ad.add j) = some u) ∧ ∀ u ∈ intV W.must, u.oneCell' = true)) := Lib.hid fun wx hb => by
              have h := (HM0.out wx (thenB HBW4.out hb)).news
              rw [HLN.out.1] at h
              exact h
            have HN2 : Hid (∀ wx, Below w4.heap.size w4 wx → ((Value.slice os ns cs = .slice none 0 0 ∧ ns = 0 ∧ intV W.should = []) ∨ ∃ ad c, Value.slice os ns cs = .slice (some ad) ns c ∧ (intV W.should).length = ns * 1 ∧ (∀ j u, (intV W.should)[j]? = some u → wx.cell? (ad.add j) = some u) ∧ ∀ u ∈ intV W.should, u.oneCell' = true)) := Lib.hid fun wx hb => by
              have h := (HS0.out wx (thenB HBW4.out hb)).news
              rw [HLN.out.2.1] at h
              exact h
            have HF : Hid (∀ (w3 : World) (v3 : Value), w3.ownsRow w4.heap.size 3 1 v3 (0 + nm + ns) ([] ++ intV W.must ++ intV W.should) → NnPost w4 LL v3 w3 ∧ ∃ oa cap, v3 = .slice oa nn cap) := Lib.hid fun w3 v3 h => by
              have h3 : NnPost w4 LL v3 w3 := by
                unfold NnPost IntL
                rw [HNS.out, ← HNZ.out, ← hLL]
                have e2 : intV (W.must ++ W.should) = [] ++ intV W.must ++ intV W.should := by simp [intV]
                rw [e2, ← Nat.zero_add nm]
                exact h
              refine ⟨h3, ?_⟩
              unfold NnPost at h3
              obtain ⟨oa, cap, e⟩ := h3.form
              rw [HNS.out] at e
              exact ⟨oa, cap, e⟩
            clear hLL hnn HWHO HNZ hi0 hw0 hw1 hw2 f4 f5
            go_cut [125, 126, 127] from 119 to 127 (fun q n c wx => NnPost w4 LL q wx ∧ n = .int .i64 (nn : Int) ∧ c = .int .i64 0 ∧ Below w4.heap.size w4 wx)
            case first =>
              go_region_held3 (fun w' => w'.cell? ⟨w.heap.size, 4, none⟩ = some (.slice om nm cm) ∧ w'.cell? ⟨w.heap.size, 5, none⟩ = some (.slice os ns cs)) (exact HCC.out _ (by repeat (first | with_reducible exact Below.refl _ _ | with_reducible exact hb2.out | with_reducible exact hb1.out | (with_reducible refine Below.drew ?_) | (with_reducible refine Below.alloc ?_ (by first | exact Nat.le_refl _ | (simp <;> omega)) _)))) (first
                | (refine step_append_anyI rfl (.tmp 119) (.tmp 121) 23 rfl w4.heap.size 3 i0 (.int .i64 0) 1 8 Tryd.underlying23 HI.out.1 HI.out.2.1 HI.out.2.2.1 HI.out.2.2.2 rfl (by decide) (.slice (some ⟨w4.heap.size, 0, none⟩) 0 0) 0 [] (by simp [Act.eval]) ?_ (.slice om nm cm) nm (intV W.must) (by simp [Act.eval]) (HN1.out _ (by repeat (first | with_reducible exact Below.refl _ _ | (with_reducible refine Below.drew ?_) | (with_reducible refine Below.alloc ?_ (by first | exact Nat.le_refl _ | (simp <;> omega)) _)))) (by unfold maxLen; omega) (by omega) (by first | (simp; done) | (simp; omega)) ?_
                   · first | exact World.ownsRow.drew (own_empty _ _ _ _ (by simp)) | exact own_empty _ _ _ _ (by simp) | exact World.ownsRow.drew ((own_empty _ _ _ _ (by simp)).alloc _)
                   intro v1 w1 hown1 hg1
                   have hb1 := Lib.hid (Below.grown (B := w4.heap.size) (a := w4) (by repeat (first | with_reducible exact Below.refl _ _ | (with_reducible refine Below.drew ?_) | (with_reducible refine Below.alloc ?_ (by first | exact Nat.le_refl _ | (simp <;> omega)) _))) hg1 (by first | (simp; done) | (simp; omega)) (by intro k hk; simp [Value.ownBlock] at hk; omega))
                   clear hg1)
                | (refine step_append_anyI rfl (.tmp 122) (.tmp 124) 23 rfl w4.heap.size 3 i0 (.int .i64 0) 1 8 Tryd.underlying23 HI.out.1 HI.out.2.1 HI.out.2.2.1 HI.out.2.2.2 rfl (by decide) v1 (0 + nm) ([] ++ intV W.must) (by simp [Act.eval]) (by first | exact hown1 | exact World.ownsRow.drew hown1) (.slice os ns cs) ns (intV W.should) (by simp [Act.eval]) (HN2.out _ (by repeat (first | with_reducible exact hb1.out | (with_reducible refine Below.drew ?_)))) (by unfold maxLen; omega) (by omega) (by have := hb1.out.size; first | omega | (simp; omega)) ?_
                   intro v2 w2 hown2 hg2
                   have hb2 := Lib.hid (Below.grown (B := w4.heap.size) (a := w4) (by repeat (first | with_reducible exact hb1.out | (with_reducible refine Below.drew ?_))) hg2 (by have := hb1.out.size; first | omega | (simp; omega)) (fun k hk => (hown1.lt k hk).1))
                   obtain ⟨hN2, oa2, cap2, rfl⟩ := HF.out _ _ hown2
                   have HN3P := Lib.hid hN2
                   clear hg2 hN2))
              all_goals go_wp2_with fail
              all_goals go_meet
              all_goals exact ⟨HN3P.out, rfl, rfl, hb2.out⟩
            case rest =>
              obtain ⟨hNP, rfl, rfl, hBC⟩ := hcut
              unfold NnPost at hNP
              obtain ⟨oa, cap, e6⟩ := hNP.form
              rw [HNS.out] at e6
              subst e6
              have HV := Lib.hid hNP
              have HBM := Lib.hid hBC
              clear hNP hBC HCC HN1 HN2 HF HI b1 b2
              go_upto_region 18 with fail
              go_loopw [127] (fun c wr => ∃ i : Nat, c = .int .i64 (i : Int) ∧ i ≤ nn ∧ Hid (IntL wr w4.heap.size (.slice oa nn cap) LL) ∧ Hid (Below w4.heap.size w4 wr)) (fun c _ => nn - (intOf c).toNat)
              case atStart => exact ⟨0, rfl, by omega, HV, HBM⟩
              case round =>
                obtain ⟨i, rfl, hi, HV1, HB1⟩ := hrel
                by_cases hin : i < nn
                · have hil : i < LL.length := by rw [HNS.out]; exact hin
                  obtain ⟨g9, rfl, h1, h2, h3, h4⟩ := HV1.out.at hil
                  have hx := HLL.out (LL.getD i 0) (at_mem hil)
                  obtain ⟨X, hX⟩ : ∃ x, LL.getD i 0 = x := ⟨_, rfl⟩
                  rw [hX] at h3 hx
                  have o0 := HOW.out wr (HBN.out.trans (HB1.out.mono HBN.out.size))
                  have k1 : (i : Int) < (nn : Int) := by omega
                  have k2 : (0 : Int) ≤ (i : Int) := by omega
                  have k3 : ¬ X < 0 := by omega
                  have k4 : ¬ (k : Int) ≤ X := by omega
                  clear h1 h2 h4 hX hil
                  go_wp2_with fail
                  go_roundw
                  case rel => exact ⟨i + 1, by go_num, by omega, HV1, HB1⟩
                  case measure => simp [intOf]; omega
                · have hii : i = nn := by omega
                  subst hii
                  have HBR := Lib.hid (HBN.out.trans (HB1.out.mono HBN.out.size))
                  have HXR := Lib.hid (HXN.out.call HB1.out HZN.out)
                  have HZR := Lib.hid (Nat.lt_of_lt_of_le HZN.out HB1.out.size)
                  have HSR := Lib.hid (Srch.of (W := W0) (P := P) (by rw [HW0.out.2.1]; omega) (by rw [HW0.out.1]; omega))
                  have HNO := Lib.hid (fun A h => slot_no (W := W0) (P := P) (A := A) h)
                  have HYES := Lib.hid (fun A h => slot_yes (W := W0) (P := P) (A := A) h HW0.out.2.2.2.2.2.2)
                  obtain ⟨FS, hFS⟩ : ∃ x, findS W0 P [] (fuelW W0) W0.frm none = x := ⟨_, rfl⟩
                  obtain ⟨SR, hSR⟩ : ∃ x, slotR W0 P [] = x := ⟨_, rfl⟩
                  simp only [hFS, hSR] at HSR HNO HYES HFN HFS
                  simp only [HW0.out.1, HW0.out.2.2.2.2.1, HW0.out.2.2.2.2.2.1] at HNO HYES
                  have HFN2 : Hid (FS = none → RE = 12) := Lib.hid fun h => (HFN.out trivial h).1
                  have HFS2 : Hid (∀ c, FS = some c → RE = 0 ∧ (rx, rr, rm) = c) := Lib.hid fun c h => ⟨(HFS.out c trivial h).1, (HFS.out c trivial h).2⟩
                  have HST0 : Hid (¬ FndB FS fr true) := Lib.hid (by have := HSR.out.start; rw [HW0.out.2.2.1] at this; exact this)
                  have HSK : Hid (∀ (j : Nat) (A A' : Int) (M : Bool), A = fr + j * st → (M = true → A' = A + st) → (M = false → tt - A < st) → SR A = none → (FndB FS A' M ↔ FndB FS A true)) := Lib.hid (fun j A A' M h1 h2 h3 h4 => HSR.out.skip (j := j) (by rw [HW0.out.2.1, HW0.out.2.2.1]; exact h1) (by rw [HW0.out.2.1]; exact h2) (by rw [HW0.out.2.1, HW0.out.2.2.2.1]; exact h3) h4)
                  have HHE : Hid (∀ (j : Nat) (A A' : Int) (M : Bool) (r : Int) (m : List Int), A = fr + j * st → (M = true → A' = A + st) → (M = false → tt - A < st) → SR A = some (r, m) → A + ln ≤ tt → ∃ c, FS = some c ∧ c.2.2.length ≤ m.length ∧ (m.length = c.2.2.length → c.1 ≤ A) ∧ (FndB FS A' M ↔ FndB FS A true ∨ (A = c.1 ∧ m.length = c.2.2.length))) := Lib.hid (fun j A A' M r m h1 h2 h3 h4 h5 => HSR.out.here (j := j) (by rw [HW0.out.2.1, HW0.out.2.2.1]; exact h1) (by rw [HW0.out.2.1]; exact h2) (by rw [HW0.out.2.1, HW0.out.2.2.2.1]; exact h3) h4 (by rw [HW0.out.1, HW0.out.2.2.2.1]; exact h5))
                  have HEN : Hid (∀ (A : Int) (M F : Bool), FIff F FS A M → (M = true → ¬ A + ln ≤ tt) → (F = true ∧ RE = 0) ∨ (F = false ∧ RE = 12)) := Lib.hid (fun A M F h1 h2 => by
                    have h3 := HSR.out.last (A := A) (M := M) (by rw [HW0.out.1, HW0.out.2.2.2.1]; exact h2)
                    unfold FIff at h1
                    rw [h3] at h1
                    cases hc : FS with
                    | none =>
                      right
                      refine ⟨?_, HFN2.out hc⟩
                      cases F with
                      | false => rfl
                      | true => exact absurd hc (h1.1 rfl)
                    | some c => exact .inl ⟨h1.2 (by rw [hc]; simp), (HFS2.out c hc).1⟩)
                  have HMW : Hid (∀ x, x ∈ W.must → 0 ≤ x ∧ x < (k : Int)) := HMW0
                  have HSH : Hid (∀ x, x ∈ W.should → 0 ≤ x ∧ x < (k : Int)) := HSH0
                  have CM : Hid (∀ (w0 : World) (A : Int), Below wQ.heap.size wQ w0 → -400000000000 ≤ A → A ≤ 400000000000 → Calls Tryd.prog 12 #[.slice om nm cm, .int .i64 A, .pointer (some ⟨zL, 0, none⟩), .pointer (some ⟨w.heap.size, 0, none⟩)] w0 fun e w' => e = .returned (.int .i64 ((missL P W.must A (A + ln)).length : Int)) ∧ Below w0.heap.size w0 w') := Lib.hid (fun w0 A hb h1 h2 => by
                    have hm1 := HM0.out w0 (thenB HBQ.out hb)
                    have hn1 := HNN.out
                    rw [HLN.out.1] at hm1
                    exact missing_any zL w.heap.size P (.slice ov k cv) (.slice om nm cm) W.must ln A w0 (HOW.out w0 hb) (HCQ.out w0 hb).1 (HPS.out.call hb) hm1 HLP.out (by omega) (by rw [HPL.out]; exact HMW.out) h1 h2 l1 l2)
                  have CS : Hid (∀ (w0 : World) (A : Int), Below wQ.heap.size wQ w0 → -400000000000 ≤ A → A ≤ 400000000000 → Calls Tryd.prog 12 #[.slice os ns cs, .int .i64 A, .pointer (some ⟨zL, 0, none⟩), .pointer (some ⟨w.heap.size, 0, none⟩)] w0 fun e w' => e = .returned (.int .i64 ((missL P W.should A (A + ln)).length : Int)) ∧ Below w0.heap.size w0 w') := Lib.hid (fun w0 A hb h1 h2 => by
                    have hm1 := HS0.out w0 (thenB HBQ.out hb)
                    have hn1 := HNN.out
                    rw [HLN.out.2.1] at hm1
                    exact missing_any zL w.heap.size P (.slice ov k cv) (.slice os ns cs) W.should ln A w0 (HOW.out w0 hb) (HCQ.out w0 hb).1 (HPS.out.call hb) hm1 HLP.out (by omega) (by rw [HPL.out]; exact HSH.out) h1 h2 l1 l2)
                  have hmf : ∀ (fn : Fn) (first cap : Array Value) (w : World), (Instr.makeFunc fn first cap).run Tryd.prog w = .ok (.func fn first cap) w := fun _ _ _ _ => rfl
                  clear hFS hSR HSR HFN HFS HV1 HV HBM
                  obtain ⟨-, -, f2, -⟩ := HCQ.out wr HBR.out
                  go_upto_region 26 with fail
                  clear f2
                  go_loopw [14, 15, 13] (fun x y z wr => ∃ (A : Int) (M F : Bool), x = .int .i64 A ∧ y = .bool M ∧ z = .bool F ∧ Hid (M = true → ∃ j : Nat, A = fr + j * st ∧ A ≤ tt) ∧ Hid (FIff F FS A M) ∧ Hid (Below wQ.heap.size wQ wr) ∧ Hid (SlBx wr zS rx rr (.slice o3 n3 c3)) ∧ Hid (zS < wr.heap.size)) (fun x y _ _ => mFnd tt x y)
                  case atStart => exact ⟨fr, true, false, rfl, rfl, rfl, Lib.hid (fun _ => ⟨0, by simp, ft⟩), Lib.hid (by unfold FIff; exact ⟨fun h => (by cases h), fun h => absurd h HST0.out⟩), HBR, HXR, HZR⟩
                  case round =>
                    obtain ⟨A, M, F, rfl, rfl, rfl, HJ, HFI, HBk, HX, HZ⟩ := hrel
                    obtain ⟨f0, f1, f2, f3, f4, f5, f6⟩ := HCQ.out wr HBk.out
                    cases M with
                    | false =>
                      rcases HEN.out A false F HFI.out (fun h => by cases h) with ⟨rfl, he⟩ | ⟨rfl, he⟩
                      · subst he
                        go_wp2_with fail
                        go_ret
                        exact ⟨rfl, thenB HBQ.out HBk.out⟩
                      · subst he
                        go_wp2_with fail
                        go_ret
                        exact ⟨rfl, thenB HBQ.out HBk.out⟩
                    | true =>
                      obtain ⟨j, hA, hAt⟩ := HJ.out rfl
                      have HAJ : Hid (∃ j : Nat, A = fr + j * st) := Lib.hid ⟨j, hA⟩
                      have hfa : fr ≤ A := by
                        have : 0 ≤ (j : Int) * st := Int.mul_nonneg (by omega) (by omega)
                        omega
                      have HAJ2 := Lib.hid hA
                      clear hA
                      have e1 : wrap64 (A + ln) = A + ln := wrap_in (InI.mk (by omega) (by omega))
                      by_cases hend : A + ln ≤ tt
                      · have C1 := Lib.hid (CM.out wr A HBk.out (by omega) (by omega))
                        obtain ⟨m1, hm1⟩ : ∃ x, (missL P W.must A (A + ln)).length = x := ⟨_, rfl⟩
                        rw [hm1] at C1
                        by_cases hmi : 0 < m1
                        · have k1 : (0 : Int) < (m1 : Int) := by omega
                          have hsr := HNO.out A (by rw [hm1]; exact hmi)
                          have HNW : Hid (∀ A' M', (M' = true → A' = A + st) → (M' = false → tt - A < st) → FIff F FS A' M') := Lib.hid (fun A' M' h1 h2 => by
                            have h3 := HSK.out j A A' M' HAJ2.out h1 h2 hsr
                            have h4 := HFI.out
                            unfold FIff at h4 ⊢
                            rw [h3]
                            exact h4)
                          clear hsr hm1
                          go_upto_region 27 with (go_at_call 12; refine (C1.out).mono ?_; rintro e w5 ⟨rfl, hb5⟩; have HB5 := Lib.hid hb5; clear hb5)
                          clear f0 f1 f2 f3 f4 f5 f6 e1
                          have HBX := Lib.hid (HBk.out.trans (HB5.out.mono HBk.out.size))
                          have HXX := Lib.hid (HX.out.call HB5.out HZ.out)
                          have HZX := Lib.hid (Nat.lt_of_lt_of_le HZ.out HB5.out.size)
                          obtain ⟨-, f1, -, f3, -⟩ := HCQ.out w5 HBX.out
                          by_cases hmore : st ≤ tt - A
                          · have e2 : IntKind.i64.wrap (A + st) = A + st := IntWalk.i64_in _ (by omega)
                            have e3 : IntKind.i64.wrap (tt - A) = tt - A := IntWalk.i64_in _ (by omega)
                            have HM2 : Hid (∃ j : Nat, A + st = fr + j * st ∧ A + st ≤ tt) := Lib.hid (by
                              obtain ⟨j, hj⟩ := HAJ.out
                              exact ⟨j + 1, by rw [hj]; push_cast; rw [Int.add_mul]; omega, by omega⟩)
                            have HNX : Hid (FIff F FS (A + st) true) := Lib.hid (HNW.out (A + st) true (fun _ => rfl) (fun h => by cases h))
                            go_quiet (fail)
                            have HBq := Lib.hid (belowN (Below.refl w5.heap.size w5) nq)
                            clear e2 e3 f1 f3
                            go_roundw
                            case rel => (repeat apply Exists.intro); exact ⟨⟨A + st, true, F, rfl, rfl, rfl, Lib.hid (fun _ => HM2.out), HNX, Lib.hid (HBX.out.trans (HBq.out.mono HBX.out.size)), Lib.hid (HXX.out.call HBq.out HZX.out), Lib.hid (Nat.lt_of_lt_of_le HZX.out HBq.out.size)⟩, rfl⟩
                            case measure => simp [mFnd, intOf]; omega
                          · have e3 : IntKind.i64.wrap (tt - A) = tt - A := IntWalk.i64_in _ (by omega)
                            have d3 : decide (st ≤ tt - A) = false := decide_eq_false hmore
                            have HNX : Hid (∀ A', FIff F FS A' false) := Lib.hid (fun A' => HNW.out A' false (fun h => by cases h) (fun _ => by omega))
                            go_quiet (fail)
                            have HBq := Lib.hid (belowN (Below.refl w5.heap.size w5) nq)
                            clear e3 d3 f1 f3
                            go_roundw
                            case rel => (repeat apply Exists.intro); exact ⟨⟨_, false, F, rfl, rfl, rfl, Lib.hid (fun h => by cases h), Lib.hid (HNX.out _), Lib.hid (HBX.out.trans (HBq.out.mono HBX.out.size)), Lib.hid (HXX.out.call HBq.out HZX.out), Lib.hid (Nat.lt_of_lt_of_le HZX.out HBq.out.size)⟩, rfl⟩
                            case measure => simp [mFnd, intOf]
                        · have k1 : ¬ (0 : Int) < (m1 : Int) := by omega
                          have hsr := HYES.out A (by rw [hm1]; exact hmi)
                          obtain ⟨m2, hm2⟩ : ∃ x, (missL P W.should A (A + ln)).length = x := ⟨_, rfl⟩
                          obtain ⟨mm, hmm⟩ : ∃ x, sortL (missL P W.should A (A + ln)) = x := ⟨_, rfl⟩
                          have hmL : mm.length = m2 := by rw [← hmm, sortL_len]; exact hm2
                          rw [hmm] at hsr
                          obtain ⟨c, hc, hle, heq, -⟩ := HHE.out j A (A + st) true (-1) mm HAJ2.out (fun _ => rfl) (fun h => by cases h) hsr hend
                          obtain ⟨he, hcx⟩ := HFS2.out c hc
                          subst hcx
                          simp only at hle heq
                          rw [hmL, HN3.out] at hle heq
                          have HNW : Hid (∀ A' M', (M' = true → A' = A + st) → (M' = false → tt - A < st) → FIff (F || (decide (A = rx) && decide (m2 = n3))) FS A' M') := Lib.hid (fun A' M' h1 h2 => by
                            obtain ⟨c', hc', _, _, h3⟩ := HHE.out j A A' M' (-1) mm HAJ2.out h1 h2 hsr hend
                            rw [hc] at hc'
                            cases hc'
                            simp only at h3
                            rw [hmL, HN3.out] at h3
                            have h4 := HFI.out
                            unfold FIff at h4 ⊢
                            rw [h3, ← h4]
                            simp)
                          have C2 := Lib.hid (fun w0 hb => CS.out w0 A hb (by omega) (by omega))
                          rw [hm2] at C2
                          have HHQ := Lib.hid heq
                          clear hsr hm1 hmm hmL hc heq hm2
                          subst he
                          go_upto_region 29 with (go_at_call 12; refine (C1.out).mono ?_; rintro e w5 ⟨rfl, hb5⟩; have HB5 := Lib.hid hb5; clear hb5)
                          clear f0 f1 f2 f3 f4 f5 f6 e1
                          have HBX := Lib.hid (HBk.out.trans (HB5.out.mono HBk.out.size))
                          have HXX := Lib.hid (HX.out.call HB5.out HZ.out)
                          have HZX := Lib.hid (Nat.lt_of_lt_of_le HZ.out HB5.out.size)
                          obtain ⟨f0, f1, f2, f3, f4, f5, f6⟩ := HCQ.out w5 HBX.out
                          go_upto_region 30 with (go_at_call 12; refine (C2.out _ HBX.out).mono ?_; rintro e w6 ⟨rfl, hb6⟩; have HB6 := Lib.hid hb6; clear hb6)
                          clear f0 f1 f2 f3 f4 f5 f6
                          have HBY := Lib.hid (HBX.out.trans (HB6.out.mono HBX.out.size))
                          have HXY := Lib.hid (HXX.out.call HB6.out HZX.out)
                          have HZY := Lib.hid (Nat.lt_of_lt_of_le HZX.out HB6.out.size)
                          have x0 := HXY.out.c0
                          have x1 := HXY.out.c1
                          have x2 := HXY.out.c2
                          have k2 : ¬ (m2 : Int) < (n3 : Int) := by omega
                          go_cut [196] from 175 to 195 (fun q wx => q = .bool false ∧ w6 = wx)
                          case first =>
                            by_cases e : m2 = n3
                            · have k3 : ¬ A < rx := by have := HHQ.out e; omega
                              subst e
                              go_wp2_with fail
                              go_meet
                              exact ⟨rfl, rfl⟩
                            · have k4 : ¬ (m2 : Int) = (n3 : Int) := by omega
                              have k5 : ((m2 : Int) == (n3 : Int)) = false := by rw [beq_eq_false_iff_ne]; exact k4
                              go_wp2_with fail
                              go_meet
                              exact ⟨rfl, rfl⟩
                          case rest =>
                            obtain ⟨rfl, rfl⟩ := hcut
                            cases F with
                            | true =>
                              have hbb : (true || (decide (A = rx) && decide (m2 = n3))) = true := by simp
                              rw [hbb] at HNW
                              clear hbb
                              go_upto_region 27 with fail
                              clear x0 x1 x2
                              obtain ⟨-, f1, -, f3, -⟩ := HCQ.out w6 HBY.out
                              by_cases hmore : st ≤ tt - A
                              · have e2 : IntKind.i64.wrap (A + st) = A + st := IntWalk.i64_in _ (by omega)
                                have e3 : IntKind.i64.wrap (tt - A) = tt - A := IntWalk.i64_in _ (by omega)
                                have HM2 : Hid (∃ j : Nat, A + st = fr + j * st ∧ A + st ≤ tt) := Lib.hid (by
                                  obtain ⟨j, hj⟩ := HAJ.out
                                  exact ⟨j + 1, by rw [hj]; push_cast; rw [Int.add_mul]; omega, by omega⟩)
                                have HNX : Hid (FIff true FS (A + st) true) := Lib.hid (HNW.out (A + st) true (fun _ => rfl) (fun h => by cases h))
                                go_quiet (fail)
                                have HBq := Lib.hid (belowN (Below.refl w6.heap.size w6) nq)
                                clear e2 e3 f1 f3
                                go_roundw
                                case rel => (repeat apply Exists.intro); exact ⟨⟨A + st, true, true, rfl, rfl, rfl, Lib.hid (fun _ => HM2.out), HNX, Lib.hid (HBY.out.trans (HBq.out.mono HBY.out.size)), Lib.hid (HXY.out.call HBq.out HZY.out), Lib.hid (Nat.lt_of_lt_of_le HZY.out HBq.out.size)⟩, rfl⟩
                                case measure => simp [mFnd, intOf]; omega
                              · have e3 : IntKind.i64.wrap (tt - A) = tt - A := IntWalk.i64_in _ (by omega)
                                have d3 : decide (st ≤ tt - A) = false := decide_eq_false hmore
                                have HNX : Hid (∀ A', FIff true FS A' false) := Lib.hid (fun A' => HNW.out A' false (fun h => by cases h) (fun _ => by omega))
                                go_quiet (fail)
                                have HBq := Lib.hid (belowN (Below.refl w6.heap.size w6) nq)
                                clear e3 d3 f1 f3
                                go_roundw
                                case rel => (repeat apply Exists.intro); exact ⟨⟨_, false, true, rfl, rfl, rfl, Lib.hid (fun h => by cases h), Lib.hid (HNX.out _), Lib.hid (HBY.out.trans (HBq.out.mono HBY.out.size)), Lib.hid (HXY.out.call HBq.out HZY.out), Lib.hid (Nat.lt_of_lt_of_le HZY.out HBq.out.size)⟩, rfl⟩
                                case measure => simp [mFnd, intOf]
                            | false =>
                              by_cases e8 : A = rx
                              · subst e8
                                by_cases e9 : m2 = n3
                                · subst e9
                                  have hbb : (false || (decide (A = A) && decide (m2 = m2))) = true := by simp
                                  rw [hbb] at HNW
                                  clear hbb
                                  go_upto_region 27 with fail
                                  clear x0 x1 x2
                                  obtain ⟨-, f1, -, f3, -⟩ := HCQ.out w6 HBY.out
                                  by_cases hmore : st ≤ tt - A
                                  · have e2 : IntKind.i64.wrap (A + st) = A + st := IntWalk.i64_in _ (by omega)
                                    have e3 : IntKind.i64.wrap (tt - A) = tt - A := IntWalk.i64_in _ (by omega)
                                    have HM2 : Hid (∃ j : Nat, A + st = fr + j * st ∧ A + st ≤ tt) := Lib.hid (by
                                      obtain ⟨j, hj⟩ := HAJ.out
                                      exact ⟨j + 1, by rw [hj]; push_cast; rw [Int.add_mul]; omega, by omega⟩)
                                    have HNX : Hid (FIff true FS (A + st) true) := Lib.hid (HNW.out (A + st) true (fun _ => rfl) (fun h => by cases h))
                                    go_quiet (fail)
                                    have HBq := Lib.hid (belowN (Below.refl w6.heap.size w6) nq)
                                    clear e2 e3 f1 f3
                                    go_roundw
                                    case rel => (repeat apply Exists.intro); exact ⟨⟨A + st, true, true, rfl, rfl, rfl, Lib.hid (fun _ => HM2.out), HNX, Lib.hid (HBY.out.trans (HBq.out.mono HBY.out.size)), Lib.hid (HXY.out.call HBq.out HZY.out), Lib.hid (Nat.lt_of_lt_of_le HZY.out HBq.out.size)⟩, rfl⟩
                                    case measure => simp [mFnd, intOf]; omega
                                  · have e3 : IntKind.i64.wrap (tt - A) = tt - A := IntWalk.i64_in _ (by omega)
                                    have d3 : decide (st ≤ tt - A) = false := decide_eq_false hmore
                                    have HNX : Hid (∀ A', FIff true FS A' false) := Lib.hid (fun A' => HNW.out A' false (fun h => by cases h) (fun _ => by omega))
                                    go_quiet (fail)
                                    have HBq := Lib.hid (belowN (Below.refl w6.heap.size w6) nq)
                                    clear e3 d3 f1 f3
                                    go_roundw
                                    case rel => (repeat apply Exists.intro); exact ⟨⟨_, false, true, rfl, rfl, rfl, Lib.hid (fun h => by cases h), Lib.hid (HNX.out _), Lib.hid (HBY.out.trans (HBq.out.mono HBY.out.size)), Lib.hid (HXY.out.call HBq.out HZY.out), Lib.hid (Nat.lt_of_lt_of_le HZY.out HBq.out.size)⟩, rfl⟩
                                    case measure => simp [mFnd, intOf]
                                · have k4 : ¬ (m2 : Int) = (n3 : Int) := by omega
                                  have k5 : ((m2 : Int) == (n3 : Int)) = false := by rw [beq_eq_false_iff_ne]; exact k4
                                  have hbb : (false || (decide (A = A) && decide (m2 = n3))) = false := by simp [e9]
                                  rw [hbb] at HNW
                                  clear hbb
                                  go_upto_region 27 with fail
                                  clear x0 x1 x2
                                  obtain ⟨-, f1, -, f3, -⟩ := HCQ.out w6 HBY.out
                                  by_cases hmore : st ≤ tt - A
                                  · have e2 : IntKind.i64.wrap (A + st) = A + st := IntWalk.i64_in _ (by omega)
                                    have e3 : IntKind.i64.wrap (tt - A) = tt - A := IntWalk.i64_in _ (by omega)
                                    have HM2 : Hid (∃ j : Nat, A + st = fr + j * st ∧ A + st ≤ tt) := Lib.hid (by
                                      obtain ⟨j, hj⟩ := HAJ.out
                                      exact ⟨j + 1, by rw [hj]; push_cast; rw [Int.add_mul]; omega, by omega⟩)
                                    have HNX : Hid (FIff false FS (A + st) true) := Lib.hid (HNW.out (A + st) true (fun _ => rfl) (fun h => by cases h))
                                    go_quiet (fail)
                                    have HBq := Lib.hid (belowN (Below.refl w6.heap.size w6) nq)
                                    clear e2 e3 f1 f3
                                    go_roundw
                                    case rel => (repeat apply Exists.intro); exact ⟨⟨A + st, true, false, rfl, rfl, rfl, Lib.hid (fun _ => HM2.out), HNX, Lib.hid (HBY.out.trans (HBq.out.mono HBY.out.size)), Lib.hid (HXY.out.call HBq.out HZY.out), Lib.hid (Nat.lt_of_lt_of_le HZY.out HBq.out.size)⟩, rfl⟩
                                    case measure => simp [mFnd, intOf]; omega
                                  · have e3 : IntKind.i64.wrap (tt - A) = tt - A := IntWalk.i64_in _ (by omega)
                                    have d3 : decide (st ≤ tt - A) = false := decide_eq_false hmore
                                    have HNX : Hid (∀ A', FIff false FS A' false) := Lib.hid (fun A' => HNW.out A' false (fun h => by cases h) (fun _ => by omega))
                                    go_quiet (fail)
                                    have HBq := Lib.hid (belowN (Below.refl w6.heap.size w6) nq)
                                    clear e3 d3 f1 f3
                                    go_roundw
                                    case rel => (repeat apply Exists.intro); exact ⟨⟨_, false, false, rfl, rfl, rfl, Lib.hid (fun h => by cases h), Lib.hid (HNX.out _), Lib.hid (HBY.out.trans (HBq.out.mono HBY.out.size)), Lib.hid (HXY.out.call HBq.out HZY.out), Lib.hid (Nat.lt_of_lt_of_le HZY.out HBq.out.size)⟩, rfl⟩
                                    case measure => simp [mFnd, intOf]
                              · have hbb : (false || (decide (A = rx) && decide (m2 = n3))) = false := by simp [e8]
                                rw [hbb] at HNW
                                clear hbb
                                go_upto_region 27 with fail
                                clear x0 x1 x2
                                obtain ⟨-, f1, -, f3, -⟩ := HCQ.out w6 HBY.out
                                by_cases hmore : st ≤ tt - A
                                · have e2 : IntKind.i64.wrap (A + st) = A + st := IntWalk.i64_in _ (by omega)
                                  have e3 : IntKind.i64.wrap (tt - A) = tt - A := IntWalk.i64_in _ (by omega)
                                  have HM2 : Hid (∃ j : Nat, A + st = fr + j * st ∧ A + st ≤ tt) := Lib.hid (by
                                    obtain ⟨j, hj⟩ := HAJ.out
                                    exact ⟨j + 1, by rw [hj]; push_cast; rw [Int.add_mul]; omega, by omega⟩)
                                  have HNX : Hid (FIff false FS (A + st) true) := Lib.hid (HNW.out (A + st) true (fun _ => rfl) (fun h => by cases h))
                                  go_quiet (fail)
                                  have HBq := Lib.hid (belowN (Below.refl w6.heap.size w6) nq)
                                  clear e2 e3 f1 f3
                                  go_roundw
                                  case rel => (repeat apply Exists.intro); exact ⟨⟨A + st, true, false, rfl, rfl, rfl, Lib.hid (fun _ => HM2.out), HNX, Lib.hid (HBY.out.trans (HBq.out.mono HBY.out.size)), Lib.hid (HXY.out.call HBq.out HZY.out), Lib.hid (Nat.lt_of_lt_of_le HZY.out HBq.out.size)⟩, rfl⟩
                                  case measure => simp [mFnd, intOf]; omega
                                · have e3 : IntKind.i64.wrap (tt - A) = tt - A := IntWalk.i64_in _ (by omega)
                                  have d3 : decide (st ≤ tt - A) = false := decide_eq_false hmore
                                  have HNX : Hid (∀ A', FIff false FS A' false) := Lib.hid (fun A' => HNW.out A' false (fun h => by cases h) (fun _ => by omega))
                                  go_quiet (fail)
                                  have HBq := Lib.hid (belowN (Below.refl w6.heap.size w6) nq)
                                  clear e3 d3 f1 f3
                                  go_roundw
                                  case rel => (repeat apply Exists.intro); exact ⟨⟨_, false, false, rfl, rfl, rfl, Lib.hid (fun h => by cases h), Lib.hid (HNX.out _), Lib.hid (HBY.out.trans (HBq.out.mono HBY.out.size)), Lib.hid (HXY.out.call HBq.out HZY.out), Lib.hid (Nat.lt_of_lt_of_le HZY.out HBq.out.size)⟩, rfl⟩
                                  case measure => simp [mFnd, intOf]
                      · rcases HEN.out A true F HFI.out (fun _ => by omega) with ⟨rfl, he⟩ | ⟨rfl, he⟩
                        · subst he
                          go_wp2_with fail
                          go_ret
                          exact ⟨rfl, thenB HBQ.out HBk.out⟩
                        · subst he
                          go_wp2_with fail
                          go_ret
                          exact ⟨rfl, thenB HBQ.out HBk.out⟩
          · have hre : RE = CK := (HFB.out hck).1
            subst hre
            have hck2 : ¬ RE = 0 := hck
            go_wp2_with fail
            go_ret
            exact ⟨rfl, thenB HBQ.out HBN.out⟩
end Go.Proofs.YtbmndenopgkpoaaDoor
