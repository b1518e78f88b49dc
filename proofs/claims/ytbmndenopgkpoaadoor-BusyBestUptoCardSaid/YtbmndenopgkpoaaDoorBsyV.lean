/- The walk of the law BusyFinds. -/
import Derived.Test.YtbmndenopgkpoaaDoorBsyU
import Derived.Test.YtbmndenopgkpoaaDoorMomL
import Derived.Test.YtbmndenopgkpoaaDoorBsyK
namespace Go.Proofs.YtbmndenopgkpoaaDoor
open Go.RowKit Wrk Go.Shelf
theorem ptimes_info : (Tryd.prog.info? 33).map (fun i => (i.zero, i.size, i.bytes)) = some (some (.agg #[.slice none 0 0]), 1, 24) := by kernel_rfl
theorem rtimes_info : (Tryd.prog.info? 36).map (fun i => (i.zero, i.size, i.bytes)) = some (some (.agg #[.slice none 0 0]), 1, 24) := by kernel_rfl
theorem proom_info : (Tryd.prog.info? 41).map (fun i => (i.zero, i.size, i.bytes)) = some (some (.agg #[.int .i64 0, .slice none 0 0]), 2, 32) := by kernel_rfl
theorem rroom_info : (Tryd.prog.info? 43).map (fun i => (i.zero, i.size, i.bytes)) = some (some (.agg #[.int .i64 0, .slice none 0 0]), 2, 32) := by kernel_rfl
/-- The times of a list. -/
def timS (LP : List (List Iv)) (j : Nat) : List Iv := foldD [] (clipL (LP.getD j []))
theorem timS_ok (LP : List (List Iv)) (j : Nat) : Norm (timS LP j) ∧ (timS LP j).length ≤ (LP.getD j []).length := ⟨(foldD_of _).norm, (foldD_of _).len⟩
def timL (LP : List (List Iv)) : List (List Iv) := (List.range LP.length).map (timS LP)
def romL (LR : List (List Iv)) (SE : List Int) (n : Nat) : List Rm := (List.range n).map fun j => (SE.getD j 0, timS LR j)
theorem timL_len (LP : List (List Iv)) : (timL LP).length = LP.length := by simp [timL]
theorem romL_len (LR : List (List Iv)) (SE : List Int) (n : Nat) : (romL LR SE n).length = n := by simp [romL]
theorem timL_at {LP : List (List Iv)} {j : Nat} (h : j < LP.length) : (timL LP).getD j [] = timS LP j := by simp [timL, List.getD, h]
theorem romL_at {LR : List (List Iv)} {SE : List Int} {n j : Nat} (h : j < n) : (romL LR SE n).getD j rm0 = (SE.getD j 0, timS LR j) := by simp [romL, List.getD, h]
/-- What turns the law away. -/
def TooP (np nr : Nat) (wB : World) (q : Value) (wx : World) : Prop := ∃ T : Bool, q = .bool T ∧ (T = false → np ≤ 12 ∧ nr ≤ 12) ∧ wB = wx
def P19 (R : List Rm) (LR : List (List Iv)) (wP : World) (j : Nat) (g : Nat → Value) (v2 q : Value) (wx : World) : Prop := ∃ f, PairI (roomV R) wx wP.heap.size 41 43 2 q v2 (j + 1) j f g (timS LR) ∧ Below wP.heap.size wP wx
set_option maxRecDepth 100000 in
set_option maxHeartbeats 32000000 in
theorem busyFinds_walk (W : Wnt) (vm vs v1 v2 v3 : Value) (LP LR : List (List Iv)) (SE : List Int) (w : World) (hT : ErrT w) (hm : IntC w vm W.must) (hs : IntC w vs W.should) (hP : SetsS w v1 LP) (hR : SetsS w v2 LR) (hE : IntC w v3 SE)
    (nM : W.must.length ≤ 1048576) (nS : W.should.length ≤ 1048576) (nE : SE.length ≤ 1048576) (iSt : InI W.step) :
    Calls Tryd.prog 3 #[wantV W vm vs, v1, v2, v3] w fun e w' => e = .returned (.bool true) ∧ Below w.heap.size w w' := by
  obtain ⟨om, cm, rfl⟩ := hm.form
  obtain ⟨os, cs, rfl⟩ := hs.form
  obtain ⟨op, cp, rfl⟩ := hP.form
  obtain ⟨or, cr, rfl⟩ := hR.form
  obtain ⟨oe, ce, rfl⟩ := hE.form
  obtain ⟨wB, hwB, ⟨hb0, hlt⟩, f0, f1, f2, f3, f4, f5, f6⟩ := want_cells W (.slice om W.must.length cm) (.slice os W.should.length cs) w
  obtain ⟨nm, hnm⟩ : ∃ x, W.must.length = x := ⟨_, rfl⟩
  obtain ⟨ns, hns⟩ : ∃ x, W.should.length = x := ⟨_, rfl⟩
  obtain ⟨np, hnp⟩ : ∃ x, LP.length = x := ⟨_, rfl⟩
  obtain ⟨nr, hnr⟩ : ∃ x, LR.length = x := ⟨_, rfl⟩
  obtain ⟨ne, hne⟩ : ∃ x, SE.length = x := ⟨_, rfl⟩
  have HB0 := Lib.hid hb0
  have HLT := Lib.hid hlt
  have HM := Lib.hid (hm.call hb0)
  have HS := Lib.hid (hs.call hb0)
  have HP := Lib.hid (hP.call hb0)
  have HR := Lib.hid (hR.call hb0)
  have HE := Lib.hid (hE.call hb0)
  have HT := Lib.hid (hT.call hb0)
  have HNN := Lib.hid (And.intro nM (And.intro nS nE))
  have HC : Hid (∀ w', Below wB.heap.size wB w' → w'.cell? ⟨w.heap.size, 0, none⟩ = some (.int .i64 W.len) ∧ w'.cell? ⟨w.heap.size, 1, none⟩ = some (.int .i64 W.step) ∧ w'.cell? ⟨w.heap.size, 2, none⟩ = some (.int .i64 W.frm) ∧ w'.cell? ⟨w.heap.size, 3, none⟩ = some (.int .i64 W.to) ∧ w'.cell? ⟨w.heap.size, 4, none⟩ = some (.slice om nm cm) ∧ w'.cell? ⟨w.heap.size, 5, none⟩ = some (.slice os ns cs) ∧ w'.cell? ⟨w.heap.size, 6, none⟩ = some (.int .i64 W.seats)) := Lib.hid fun w' hb => by
    have k : ∀ j, w'.cell? ⟨w.heap.size, j, none⟩ = wB.cell? ⟨w.heap.size, j, none⟩ := fun j => hb.cell (p := ⟨w.heap.size, j, none⟩) hlt
    rw [hnm] at f4
    rw [hns] at f5
    exact ⟨(k 0).trans f0, (k 1).trans f1, (k 2).trans f2, (k 3).trans f3, (k 4).trans f4, (k 5).trans f5, (k 6).trans f6⟩
  have HLN := Lib.hid (And.intro hnm (And.intro hns (And.intro hnp (And.intro hnr hne))))
  have HST := Lib.hid iSt
  rw [hnm, hns] at hwB ⊢
  rw [hnp, hnr, hne]
  rw [hne] at nE
  unfold wantV
  clear hm hs hP hR hE hT hb0 hlt f0 f1 f2 f3 f4 f5 f6 nM nS hnm hns hnp hnr hne iSt
  obtain ⟨i1, hi1, hy0, hy1, hy2⟩ := info_parts ptimes_info
  obtain ⟨i2, hi2, hz0, hz1, hz2⟩ := info_parts rtimes_info
  obtain ⟨i3, hi3, hx0, hx1, hx2⟩ := info_parts proom_info
  obtain ⟨i4, hi4, hu0, hu1, hu2⟩ := info_parts rroom_info
  have HI1 := Lib.hid (And.intro hi1 (And.intro hy0 (And.intro hy1 hy2)))
  have HI2 := Lib.hid (And.intro hi2 (And.intro hz0 (And.intro hz1 hz2)))
  have HI3 := Lib.hid (And.intro hi3 (And.intro hx0 (And.intro hx1 hx2)))
  have HI4 := Lib.hid (And.intro hi4 (And.intro hu0 (And.intro hu1 hu2)))
  clear hi1 hy0 hy1 hy2 hi2 hz0 hz1 hz2 hi3 hx0 hx1 hx2 hi4 hu0 hu1 hu2
  obtain ⟨f0, f1, f2, f3, f4, f5, f6⟩ := HC.out wB (Below.refl _ _)
  go_enter Tryd.func3, Tryd.ntmps3
  go_upto_region 1 with fail
  try simp only [hwB]
  clear hwB
  obtain ⟨st, hst⟩ : ∃ x, W.step = x := ⟨_, rfl⟩
  obtain ⟨fr, hfr⟩ : ∃ x, W.frm = x := ⟨_, rfl⟩
  obtain ⟨tt, htt⟩ : ∃ x, W.to = x := ⟨_, rfl⟩
  rw [hst] at f1
  rw [hfr] at f2
  rw [htt] at f3
  have HSW := Lib.hid (And.intro hst (And.intro hfr htt))
  clear hst hfr htt
  go_cut [53] from 19 to 52 (fun q wx => TooP np nr wB q wx)
  case first =>
    by_cases h1 : 12 < np
    · have k1 : (12 : Int) < (np : Int) := by omega
      go_wp2_with fail
      go_meet
      exact ⟨true, rfl, fun h => (by cases h), rfl⟩
    · have k1 : ¬ (12 : Int) < (np : Int) := by omega
      by_cases h2 : 12 < nr
      · have k2 : (12 : Int) < (nr : Int) := by omega
        go_wp2_with fail
        go_meet
        exact ⟨true, rfl, fun h => (by cases h), rfl⟩
      · have k2 : ¬ (12 : Int) < (nr : Int) := by omega
        by_cases h3 : 0 < st
        · have k3 : ¬ st = 0 := by omega
          go_wp2_with fail
          all_goals go_meet
          all_goals exact ⟨_, rfl, fun _ => (by omega), rfl⟩
        · have k3 : decide (0 < st) = false := decide_eq_false h3
          go_wp2_with fail
          go_meet
          exact ⟨false, rfl, fun _ => (by omega), rfl⟩
  case rest =>
    obtain ⟨T, rfl, HTO, rfl⟩ := hcut
    cases T with
    | true =>
      go_wp2_with fail
      go_ret
      exact ⟨rfl, HB0.out⟩
    | false =>
      obtain ⟨hnp12, hnr12⟩ := HTO rfl
      clear HTO f0 f1 f2 f3 f4 f5 f6
      go_upto_region 6 with fail
      go_loopw [9, 10, 11] (fun x y c wr => ∃ (k : Nat) (f g : Nat → Value), c = .int .i64 (k : Int) ∧ k ≤ np ∧ Hid (PairI setV wr wB.heap.size 33 36 1 x y k k f g (timS LP)) ∧ Hid (Below wB.heap.size wB wr) ∧ Hid (∀ i, i < k → (timS LP i).length ≤ 512)) (fun _ _ c _ => np - (intOf c).toNat)
      case atStart => exact ⟨0, fun _ => .slice none 0 0, fun _ => .slice none 0 0, rfl, by omega, Lib.hid (PairI.start setV _ _ _ _ _ _ _ _ rfl rfl), Lib.hid (Below.refl _ _), Lib.hid (fun i h => absurd h (by omega))⟩
      case round =>
        obtain ⟨k, f, g, rfl, hk, HPI, HBk, HL1⟩ := hrel
        by_cases hkn : k < np
        · have hk' : k < LP.length := by rw [HLN.out.2.2.1]; exact hkn
          obtain ⟨ap, oc, c, rfl, hcp, hiv⟩ := HP.out.at hk'
          have HTS : Hid ((timS LP k).length ≤ (LP.getD k []).length) := Lib.hid (timS_ok LP k).2
          obtain ⟨Lk, hLk⟩ : ∃ L, LP.getD k [] = L := ⟨_, rfl⟩
          have HTQ : Hid (timS LP k = foldD [] (clipL Lk)) := Lib.hid (by rw [← hLk]; rfl)
          rw [hLk] at hcp hiv HTS
          have HIV := Lib.hid hiv
          obtain ⟨nx, hnx⟩ : ∃ n, Lk.length = n := ⟨_, rfl⟩
          have HNX := Lib.hid hnx
          rw [hnx] at hcp HIV
          have HCP := Lib.hid (fun w' (hb : Below wB.heap.size wB w') => (hb.cell (World.block_lt_of_cell? _ _ hcp)).trans hcp)
          have cr := HCP.out wr HBk.out
          have k1 : (k : Int) < (np : Int) := by omega
          have k2 : (0 : Int) ≤ (k : Int) := by omega
          clear hLk hiv hnx hcp
          by_cases hbig : 512 < nx
          · have k3 : (512 : Int) < (nx : Int) := by omega
            go_wp2_with fail
            go_ret
            exact ⟨rfl, thenB HB0.out HBk.out⟩
          · have k3 : ¬ (512 : Int) < (nx : Int) := by omega
            have HL2 : Hid (∀ i, i < k + 1 → (timS LP i).length ≤ 512) := Lib.hid fun i hi => by
              by_cases e : i = k
              · subst e; have := HTS.out; have := HNX.out; omega
              · exact HL1.out i (by omega)
            have CP := Lib.hid (fun w0 (hb : Below wB.heap.size wB w0) => ptimes_any _ Lk w0 (HIV.out.call hb) (by have := HNX.out; omega))
            have CR := Lib.hid (fun w0 (hb : Below wB.heap.size wB w0) => rof_any _ Lk w0 (HIV.out.call hb) (by have := HNX.out; omega))
            go_wp2_with (first | (go_at_call 5; refine (CP.out _ HBk.out).mono ?_; rintro e w2 ⟨v2, o2, rfl, hof, hv2, hnw, hb2⟩; obtain rfl : o2 = timS LP k := (hof.one (foldD_of Lk)).trans HTQ.out.symm; obtain ⟨oc2, c2, rfl, -, -⟩ := id hv2; obtain ⟨n2, hn2⟩ : ∃ n, (timS LP k).length = n := ⟨_, rfl⟩; have HV2 := Lib.hid hv2; have HNW := Lib.hid hnw; have HBW := Lib.hid hb2; rw [hn2] at HV2 HNW ⊢; clear hof hv2 hnw hb2 hn2) | (go_at_call 6; refine (CR.out _ HB5.out).mono ?_; rintro e w6 ⟨v6, rfl, hv6, hb6⟩; rw [← HTQ.out] at hv6; obtain ⟨oc6, c6, rfl⟩ := hv6.form; obtain ⟨n6, hn6⟩ : ∃ n, (timS LP k).length = n := ⟨_, rfl⟩; have HV6 := Lib.hid hv6; have HBX := Lib.hid hb6; rw [hn6] at HV6 ⊢; clear hv6 hb6 hn6) | (at_builtin; refine wpList_append_lies _ rfl (.tmp 66) (.tmp 72) 27 rfl wB.heap.size 33 i1 (.agg #[.slice none 0 0]) 1 24 Tryd.underlying27 HI1.out.1 HI1.out.2.1 HI1.out.2.2.1 HI1.out.2.2.2 rfl (by decide) _ k (setV f k) rfl ((ivOwn_call HPI.out.r1 HBW.out).alloc _) _ 1 1 [.slice oc2 n2 c2] rfl rfl (cells_ivs (by simp) _ _) (by simp [Value.oneCell']) (by decide) (by unfold maxLen; omega) (by omega) (by have h5 := HBW.out.size; have h6 := HBk.out.size; simp; omega) (w2.heap.size + 1) (by simp) ?_; intro g5 c5 w5 hown hgrow hat hlt; have HPJ := Lib.hid (HPI.out.put1 (HBW.out.alloc HBW.out.size _) (HV2.out.call ((Below.refl _ _).alloc (Nat.le_refl _) _)) HNW.out hgrow hown hat (by simp) (setV_upd _ _ _)); have HB5 := Lib.hid (((HBk.out.trans (HBW.out.mono HBk.out.size)).alloc (Nat.le_trans HBk.out.size HBW.out.size) _).grown hgrow (by have h5 := HBW.out.size; have h6 := HBk.out.size; simp; omega) (fun q hq => (World.ownsRow.lt HPI.out.r1 q hq).1)); have cq := HCP.out w5 HB5.out; clear hown hgrow hat hlt) | (at_builtin; refine wpList_append_lies _ rfl (.tmp 74) (.tmp 80) 28 rfl wB.heap.size 36 i2 (.agg #[.slice none 0 0]) 1 24 Tryd.underlying28 HI2.out.1 HI2.out.2.1 HI2.out.2.2.1 HI2.out.2.2.2 rfl (by decide) _ k (setV g k) rfl ((ivOwn_call HPJ.out.r2 HBX.out).alloc _) _ 1 1 [.slice oc6 n6 c6] rfl rfl (cells_ivs (by simp) _ _) (by simp [Value.oneCell']) (by decide) (by unfold maxLen; omega) (by omega) (by have h5 := HBX.out.size; have h6 := HB5.out.size; simp; omega) (w6.heap.size + 1) (by simp) ?_; intro g7 c7 w7 hown hgrow hat hlt; have HPK := Lib.hid (HPJ.out.put2 (HBX.out.alloc HBX.out.size _) (HV6.out.call ((Below.refl _ _).alloc (Nat.le_refl _) _)) hgrow hown hat (by simp) (setV_upd _ _ _)); have HB7 := Lib.hid (((HB5.out.trans (HBX.out.mono HB5.out.size)).alloc (Nat.le_trans HB5.out.size HBX.out.size) _).grown hgrow (by have h5 := HBX.out.size; have h6 := HB5.out.size; simp; omega) (fun q hq => (World.ownsRow.lt HPJ.out.r2 q hq).1)); clear hown hgrow hat hlt))
            go_roundw
            case rel => exact ⟨k + 1, _, _, by go_num, by omega, HPK, HB7, HL2⟩
            case measure => simp [intOf]; omega
        · have hkk : k = np := by omega
          subst hkk
          have HPS : Hid (∀ w', Below wr.heap.size wr w' → SetsS w' u9 (timL LP)) := Lib.hid fun w' hb => (SetsS.own (n := k) ((timL_len LP).trans HLN.out.2.2.1) HPI.out.r1 (fun j hj => by rw [timL_at (by rw [HLN.out.2.2.1]; exact hj)]; exact (HPI.out.s1 j hj).1)).call hb
          have HQS : Hid (∀ w', Below wr.heap.size wr w' → SetsR w' u10 (timL LP)) := Lib.hid fun w' hb => (SetsR.own (n := k) ((timL_len LP).trans HLN.out.2.2.1) HPI.out.r2 (fun j hj => by rw [timL_at (by rw [HLN.out.2.2.1]; exact hj)]; exact (HPI.out.s2 j hj).1)).call hb
          obtain ⟨o9, c9, rfl⟩ := (HPS.out wr (Below.refl _ _)).form
          obtain ⟨o10, c10, rfl⟩ := (HQS.out wr (Below.refl _ _)).form
          rw [timL_len, HLN.out.2.2.1] at HPS HQS ⊢
          obtain ⟨wP, hwP⟩ : ∃ W : World, W = wr := ⟨_, rfl⟩
          subst hwP
          have HBP := HBk
          clear HPI HBk
          obtain ⟨nn, hnn⟩ : ∃ n, min nr ne = n := ⟨_, rfl⟩
          have HNN2 : Hid (nn ≤ nr ∧ nn ≤ ne ∧ (nn = nr ∨ nn = ne)) := Lib.hid (by omega)
          have hnn12 : nn ≤ 12 := by omega
          clear hnn
          obtain ⟨R, hRR⟩ : ∃ R, romL LR SE nn = R := ⟨_, rfl⟩
          have HRL : Hid (R.length = nn) := Lib.hid (by rw [← hRR]; exact romL_len _ _ _)
          have HRA : Hid (∀ j, j < nn → R.getD j rm0 = (SE.getD j 0, timS LR j)) := Lib.hid fun j hj => by rw [← hRR]; exact romL_at hj
          clear hRR
          go_upto_region 15 with fail
          go_loopw [12, 13, 14] (fun x y c wr => ∃ (j : Nat) (f g : Nat → Value), c = .int .i64 (j : Int) ∧ j ≤ nn ∧ Hid (PairI (roomV R) wr wP.heap.size 41 43 2 x y j j f g (timS LR)) ∧ Hid (Below wP.heap.size wP wr) ∧ Hid (∀ i, i < j → (timS LR i).length ≤ 512)) (fun _ _ c _ => nn - (intOf c).toNat)
          case atStart => exact ⟨0, fun _ => .slice none 0 0, fun _ => .slice none 0 0, rfl, by omega, Lib.hid (PairI.start (roomV R) _ _ _ _ _ _ _ _ rfl rfl), Lib.hid (Below.refl _ _), Lib.hid (fun i h => absurd h (by omega))⟩
          case round =>
            obtain ⟨j, f, g, rfl, hj, HPI, HBk, HLR1⟩ := hrel
            have HBO := Lib.hid (HBP.out.trans (HBk.out.mono HBP.out.size))
            obtain ⟨wA, hwA⟩ : ∃ W : World, W = wr := ⟨_, rfl⟩
            subst hwA
            obtain ⟨TG, hTG⟩ : ∃ b : Bool, decide (j < nn) = b := ⟨_, rfl⟩
            have HTG := Lib.hid hTG
            clear hTG
            go_upto_region 15 with fail
            go_cut [91] from 82 to 90 (fun q wx => q = .bool TG ∧ wA = wx)
            case first =>
              obtain ⟨m1, m2, m3⟩ := HNN2.out
              by_cases q1 : j < nr
              · have d1 : (j : Int) < (nr : Int) := by omega
                by_cases q2 : j < ne
                · have d2 : (j : Int) < (ne : Int) := by omega
                  have d3 : TG = true := HTG.out.symm.trans (decide_eq_true (by omega))
                  subst d3
                  clear m1 m2 m3
                  go_wp2_with fail
                  go_meet
                  exact ⟨rfl, rfl⟩
                · have d2 : ¬ (j : Int) < (ne : Int) := by omega
                  have d3 : TG = false := HTG.out.symm.trans (decide_eq_false (by omega))
                  subst d3
                  clear m1 m2 m3
                  go_wp2_with fail
                  go_meet
                  exact ⟨rfl, rfl⟩
              · have d1 : ¬ (j : Int) < (nr : Int) := by omega
                have d3 : TG = false := HTG.out.symm.trans (decide_eq_false (by omega))
                subst d3
                clear m1 m2 m3
                go_wp2_with fail
                go_meet
                exact ⟨rfl, rfl⟩
            case rest =>
              obtain ⟨rfl, rfl⟩ := hcut
              cases TG with
              | true =>
                have hjn : j < nn := of_decide_eq_true HTG.out
                obtain ⟨m1, m2, m3⟩ := HNN2.out
                have hk' : j < LR.length := by rw [HLN.out.2.2.2.1]; omega
                have hk2 : j < SE.length := by rw [HLN.out.2.2.2.2]; omega
                obtain ⟨ap, oc, c, rfl, hcp, hiv⟩ := HR.out.at hk'
                obtain ⟨ae, rfl, hce⟩ := HE.out.at hk2
                have HTS : Hid ((timS LR j).length ≤ (LR.getD j []).length) := Lib.hid (timS_ok LR j).2
                obtain ⟨Lk, hLk⟩ : ∃ L, LR.getD j [] = L := ⟨_, rfl⟩
                obtain ⟨Sj, hSj⟩ : ∃ L, SE.getD j 0 = L := ⟨_, rfl⟩
                have HTQ : Hid (timS LR j = foldD [] (clipL Lk)) := Lib.hid (by rw [← hLk]; rfl)
                have HRJ : Hid ((R.getD j rm0).1 = Sj) := Lib.hid (by rw [HRA.out j hjn]; exact hSj)
                rw [hLk] at hcp hiv HTS
                rw [hSj] at hce
                have HIV := Lib.hid hiv
                obtain ⟨nx, hnx⟩ : ∃ n, Lk.length = n := ⟨_, rfl⟩
                have HNX := Lib.hid hnx
                rw [hnx] at hcp HIV
                have HCP := Lib.hid (fun w' (hb : Below wB.heap.size wB w') => (And.intro ((hb.cell (World.block_lt_of_cell? _ _ hce)).trans hce) ((hb.cell (World.block_lt_of_cell? _ _ hcp)).trans hcp)))
                obtain ⟨ce1, cp1⟩ := HCP.out wA HBO.out
                have k1 : (j : Int) < (nr : Int) := by omega
                have k2 : (0 : Int) ≤ (j : Int) := by omega
                have k4 : (j : Int) < (ne : Int) := by omega
                clear hLk hSj hiv hnx hcp hce m1 m2 m3 hk' hk2
                by_cases hbig : 512 < nx
                · have k3 : (512 : Int) < (nx : Int) := by omega
                  go_wp2_with fail
                  go_ret
                  exact ⟨rfl, thenB HB0.out HBO.out⟩
                · have k3 : ¬ (512 : Int) < (nx : Int) := by omega
                  have HLR2 : Hid (∀ i, i < j + 1 → (timS LR i).length ≤ 512) := Lib.hid fun i hi => by
                    by_cases e : i = j
                    · subst e; have := HTS.out; have := HNX.out; omega
                    · exact HLR1.out i (by omega)
                  have CP := Lib.hid (fun w0 (hb : Below wB.heap.size wB w0) => ptimes_any _ Lk w0 (HIV.out.call hb) (by have := HNX.out; omega))
                  have CR := Lib.hid (fun w0 (hb : Below wB.heap.size wB w0) => rof_any _ Lk w0 (HIV.out.call hb) (by have := HNX.out; omega))
                  go_upto_region 19 with fail
                  clear ce1 cp1
                  go_cut [12] from 100 to 112 (fun q wx => P19 R LR wP j g u13 q wx)
                  case first =>
                    go_region_held3 (fun w' => w'.cell? (ae.add j) = some (.int .i64 Sj) ∧ w'.cell? (ap.add j) = some (.slice oc nx c)) (exact HCP.out _ (by repeat (first | with_reducible exact Below.refl _ _ | with_reducible exact HBO5.out | with_reducible exact HBO2.out | with_reducible exact HBO.out | (with_reducible refine Below.drew ?_) | (with_reducible refine Below.alloc ?_ (by first | exact HBO2.out.size | exact HBO.out.size | (have := HBO2.out.size; simp <;> omega) | (have := HBO.out.size; simp <;> omega)) _)))) (first
                      | (go_at_call 5; refine (CP.out _ (by repeat (first | with_reducible exact Below.refl _ _ | with_reducible exact HBO.out | (with_reducible refine Below.drew ?_) | (with_reducible refine Below.alloc ?_ (by first | exact Nat.le_refl _ | exact (HBO.out).size | (have := (HBO.out).size; simp <;> omega)) _)))).mono ?_; rintro e w2 ⟨v2, o2, rfl, hof, hv2, hnw, hb2⟩; obtain rfl : o2 = timS LR j := (hof.one (foldD_of Lk)).trans HTQ.out.symm; obtain ⟨oc2, c2, rfl, -, -⟩ := id hv2; obtain ⟨n2, hn2⟩ : ∃ n, (timS LR j).length = n := ⟨_, rfl⟩; have HPC := HPI; have HV2 := Lib.hid hv2; have HNW : Hid (NewV wA.heap.size (.slice oc2 (timS LR j).length c2)) := Lib.hid hnw; have HBW := Lib.hid ((show Below wA.heap.size wA _ from (by repeat (first | with_reducible exact Below.refl _ _ | with_reducible exact Below.refl _ _ | (with_reducible refine Below.drew ?_) | (with_reducible refine Below.alloc ?_ (by first | exact Nat.le_refl _ | exact (Below.refl _ _).size | (have := (Below.refl _ _).size; simp <;> omega)) _)))).trans (hb2.mono (by first | exact Nat.le_refl _ | simp))); have HBV := Lib.hid ((show Below wP.heap.size wP _ from (by repeat (first | with_reducible exact Below.refl _ _ | with_reducible exact HBk.out | (with_reducible refine Below.drew ?_) | (with_reducible refine Below.alloc ?_ (by first | exact Nat.le_refl _ | exact (HBk.out).size | (have := (HBk.out).size; simp <;> omega)) _)))).trans (hb2.mono (by have := HBk.out.size; first | exact this | (simp; omega)))); have HBO2 := Lib.hid (HBP.out.trans (HBV.out.mono HBP.out.size)); rw [hn2] at HV2 HNW ⊢; clear hof hv2 hnw hb2 hn2)
                      | (refine step_append_lies _ rfl (.tmp 100) (.tmp 111) 38 rfl wP.heap.size 41 i3 (.agg #[.int .i64 0, .slice none 0 0]) 2 32 Tryd.underlying38 HI3.out.1 HI3.out.2.1 HI3.out.2.2.1 HI3.out.2.2.2 rfl (by decide) u12 j (roomV R f j) (by simp [Act.eval]) (ivOwn_call HPC.out.r1 (by repeat (first | with_reducible exact Below.refl _ _ | with_reducible exact HBW.out | (with_reducible refine Below.drew ?_) | (with_reducible refine Below.alloc ?_ (by first | exact Nat.le_refl _ | exact (HBW.out).size | (have := (HBW.out).size; simp <;> omega)) _)))) ⟨w2.heap.size, 0, none⟩ 1 1 [Value.int IntKind.i64 Sj, Value.slice oc2 n2 c2] (by simp [Act.eval]) rfl (cells_ivs (by simp) _ _) (by simp [Value.oneCell']) (by decide) (by unfold maxLen; omega) (by omega) (by have h5 := HBV.out.size; simp; omega) (w2.heap.size + 1) (by simp) ?_; intro g5 c5 w5 hown hgrow hat hlt; have HPJ := Lib.hid (HPC.out.put1 (by repeat (first | with_reducible exact Below.refl _ _ | with_reducible exact HBW.out | (with_reducible refine Below.drew ?_) | (with_reducible refine Below.alloc ?_ (by first | exact Nat.le_refl _ | exact (HBW.out).size | (have := (HBW.out).size; simp <;> omega)) _))) (HV2.out.call (by repeat (first | with_reducible exact Below.refl _ _ | with_reducible exact Below.refl _ _ | (with_reducible refine Below.drew ?_) | (with_reducible refine Below.alloc ?_ (by first | exact Nat.le_refl _ | exact (Below.refl _ _).size | (have := (Below.refl _ _).size; simp <;> omega)) _)))) HNW.out hgrow hown hat (by simp) (by rw [roomV_upd, HRJ.out])); have HB5 := Lib.hid (Below.grown (B := wP.heap.size) (a := wP) (by repeat (first | with_reducible exact Below.refl _ _ | with_reducible exact HBV.out | (with_reducible refine Below.drew ?_) | (with_reducible refine Below.alloc ?_ (by first | exact Nat.le_refl _ | exact (HBV.out).size | (have := (HBV.out).size; simp <;> omega)) _))) hgrow (by have h5 := HBV.out.size; simp; omega) (fun q hq => (World.ownsRow.lt HPC.out.r1 q hq).1)); have HBO5 := Lib.hid (HBP.out.trans (HB5.out.mono HBP.out.size)); clear hown hgrow hat hlt))
                    all_goals go_wp2_with fail
                    all_goals go_meet
                    all_goals first | exact ⟨_, HPJ.out, HB5.out⟩ | exact ⟨_, HPJ.out.call (below_drew (Below.refl _ _)), below_drew HB5.out⟩
                  case rest =>
                    obtain ⟨f2, hp2, hb2⟩ := hcut
                    clear HPI HBk HBO
                    have HPI := Lib.hid hp2
                    have HBk := Lib.hid hb2
                    have HBO := Lib.hid (HBP.out.trans (HBk.out.mono HBP.out.size))
                    clear hp2 hb2
                    obtain ⟨wA, hwA⟩ : ∃ W : World, W = wc := ⟨_, rfl⟩
                    subst hwA
                    obtain ⟨ce1, cp1⟩ := HCP.out wA HBO.out
                    go_upto_region 20 with fail
                    clear ce1 cp1
                    go_region_held3 (fun w' => w'.cell? (ae.add j) = some (.int .i64 Sj) ∧ w'.cell? (ap.add j) = some (.slice oc nx c)) (exact HCP.out _ (by repeat (first | with_reducible exact Below.refl _ _ | with_reducible exact HBO5.out | with_reducible exact HBO2.out | with_reducible exact HBO.out | (with_reducible refine Below.drew ?_) | (with_reducible refine Below.alloc ?_ (by first | exact HBO2.out.size | exact HBO.out.size | (have := HBO2.out.size; simp <;> omega) | (have := HBO.out.size; simp <;> omega)) _)))) (first
                      | (go_at_call 6; refine (CR.out _ (by repeat (first | with_reducible exact Below.refl _ _ | with_reducible exact HBO.out | (with_reducible refine Below.drew ?_) | (with_reducible refine Below.alloc ?_ (by first | exact Nat.le_refl _ | exact (HBO.out).size | (have := (HBO.out).size; simp <;> omega)) _)))).mono ?_; rintro e w2 ⟨v2, rfl, hv2, hb2⟩; rw [← HTQ.out] at hv2; obtain ⟨oc2, c2, rfl⟩ := hv2.form; obtain ⟨n2, hn2⟩ : ∃ n, (timS LR j).length = n := ⟨_, rfl⟩; have HPC := HPI; have HV2 : Hid (IvL w2 wA.heap.size (.slice oc2 (timS LR j).length c2) (timS LR j)) := Lib.hid hv2; have HBW := Lib.hid ((show Below wA.heap.size wA _ from (by repeat (first | with_reducible exact Below.refl _ _ | with_reducible exact Below.refl _ _ | (with_reducible refine Below.drew ?_) | (with_reducible refine Below.alloc ?_ (by first | exact Nat.le_refl _ | exact (Below.refl _ _).size | (have := (Below.refl _ _).size; simp <;> omega)) _)))).trans (hb2.mono (by first | exact Nat.le_refl _ | simp))); have HBV := Lib.hid ((show Below wP.heap.size wP _ from (by repeat (first | with_reducible exact Below.refl _ _ | with_reducible exact HBk.out | (with_reducible refine Below.drew ?_) | (with_reducible refine Below.alloc ?_ (by first | exact Nat.le_refl _ | exact (HBk.out).size | (have := (HBk.out).size; simp <;> omega)) _)))).trans (hb2.mono (by have := HBk.out.size; first | exact this | (simp; omega)))); have HBO2 := Lib.hid (HBP.out.trans (HBV.out.mono HBP.out.size)); rw [hn2] at HV2 ⊢; clear hv2 hb2 hn2)
                      | (refine step_append_lies _ rfl (.tmp 113) (.tmp 124) 39 rfl wP.heap.size 43 i4 (.agg #[.int .i64 0, .slice none 0 0]) 2 32 Tryd.underlying39 HI4.out.1 HI4.out.2.1 HI4.out.2.2.1 HI4.out.2.2.2 rfl (by decide) u13 j (roomV R g j) (by simp [Act.eval]) (ivOwn_call HPC.out.r2 (by repeat (first | with_reducible exact Below.refl _ _ | with_reducible exact HBW.out | (with_reducible refine Below.drew ?_) | (with_reducible refine Below.alloc ?_ (by first | exact Nat.le_refl _ | exact (HBW.out).size | (have := (HBW.out).size; simp <;> omega)) _)))) ⟨w2.heap.size, 0, none⟩ 1 1 [Value.int IntKind.i64 Sj, Value.slice oc2 n2 c2] (by simp [Act.eval]) rfl (cells_ivs (by simp) _ _) (by simp [Value.oneCell']) (by decide) (by unfold maxLen; omega) (by omega) (by have h5 := HBV.out.size; simp; omega) (w2.heap.size + 1) (by simp) ?_; intro g5 c5 w5 hown hgrow hat hlt; have HPJ := Lib.hid (HPC.out.put2 (by repeat (first | with_reducible exact Below.refl _ _ | with_reducible exact HBW.out | (with_reducible refine Below.drew ?_) | (with_reducible refine Below.alloc ?_ (by first | exact Nat.le_refl _ | exact (HBW.out).size | (have := (HBW.out).size; simp <;> omega)) _))) (HV2.out.call (by repeat (first | with_reducible exact Below.refl _ _ | with_reducible exact Below.refl _ _ | (with_reducible refine Below.drew ?_) | (with_reducible refine Below.alloc ?_ (by first | exact Nat.le_refl _ | exact (Below.refl _ _).size | (have := (Below.refl _ _).size; simp <;> omega)) _)))) hgrow hown hat (by simp) (by rw [roomV_upd, HRJ.out])); have HB5 := Lib.hid (Below.grown (B := wP.heap.size) (a := wP) (by repeat (first | with_reducible exact Below.refl _ _ | with_reducible exact HBV.out | (with_reducible refine Below.drew ?_) | (with_reducible refine Below.alloc ?_ (by first | exact Nat.le_refl _ | exact (HBV.out).size | (have := (HBV.out).size; simp <;> omega)) _))) hgrow (by have h5 := HBV.out.size; simp; omega) (fun q hq => (World.ownsRow.lt HPC.out.r2 q hq).1)); have HBO5 := Lib.hid (HBP.out.trans (HB5.out.mono HBP.out.size)); clear hown hgrow hat hlt))
                    all_goals go_wp2_with fail
                    go_roundw
                    case rel => exact ⟨j + 1, _, _, by go_num, by omega, HPJ, HB5, HLR2⟩
                    case measure => simp [intOf]; omega
              | false =>
                have hjj : j = nn := by have := of_decide_eq_false HTG.out; omega
                subst hjj
                have HRS : Hid (RoomsS wA u12 R) := Lib.hid (RoomsS.own (n := j) HRL.out HPI.out.r1 (fun q hq => by rw [HRA.out q hq]; exact (HPI.out.s1 q hq).1))
                have HRQ : Hid (∀ w', Below wA.heap.size wA w' → RoomsR w' u13 R) := Lib.hid fun w' hb => (RoomsR.own (n := j) HRL.out HPI.out.r2 (fun q hq => by rw [HRA.out q hq]; exact (HPI.out.s2 q hq).1)).call hb
                have HPA := Lib.hid (HPS.out wA HBk.out)
                have HQA := Lib.hid (fun w' (hb : Below wA.heap.size wA w') => (HQS.out wA HBk.out).call hb)
                have HLP : Hid (∀ l, l ∈ timL LP → Norm l ∧ l.length ≤ 10000) := Lib.hid fun l hl => by
                  obtain ⟨i, hi, rfl⟩ := List.mem_map.1 hl
                  have h2 := HL1.out i (by have := List.mem_range.1 hi; rw [HLN.out.2.2.1] at this; exact this)
                  exact ⟨(timS_ok LP i).1, by omega⟩
                have HLR : Hid (∀ r, r ∈ R → Norm r.2 ∧ r.2.length ≤ 10000) := Lib.hid fun r hr => by
                  obtain ⟨i, hi, e⟩ := List.getElem_of_mem hr
                  have hij : i < j := by rw [← HRL.out]; exact hi
                  have h3 := HRA.out i hij
                  rw [List.getD_eq_getElem?_getD, List.getElem?_eq_getElem hi, Option.getD_some, e] at h3
                  have h2 := HLR1.out i hij
                  rw [h3]
                  exact ⟨(timS_ok LR i).1, by show (timS LR i).length ≤ _; omega⟩
                obtain ⟨P, hPP⟩ : ∃ P, timL LP = P := ⟨_, rfl⟩
                have HPL : Hid (P.length = k) := Lib.hid (by rw [← hPP, timL_len]; exact HLN.out.2.2.1)
                rw [hPP] at HPA HQA HLP
                clear hPP HPS HQS HRA HPI
                obtain ⟨ox, cx, rfl⟩ := HRS.out.form
                obtain ⟨oy, cy, rfl⟩ := (HRQ.out wA (Below.refl _ _)).form
                rw [HRL.out] at HRS HRQ ⊢
                have C1 := Lib.hid (plainFind_any W _ _ _ _ P R wA (HT.out.call HBO.out) (HM.out.call HBO.out) (HS.out.call HBO.out) HPA.out HRS.out (fun l h => by have := (HLP.out l h).2; omega) (fun r h => by have := (HLR.out r h).2; omega) (by rw [HPL.out]; omega) (by rw [HRL.out]; omega) (by have := HNN.out.1; omega) (by have := HNN.out.2.1; omega) HST.out)
                have C2 := Lib.hid (fun w0 (hb : Below wA.heap.size wA w0) => rfind_any W _ _ _ _ P R w0 ((HM.out.call HBO.out).call hb) ((HS.out.call HBO.out).call hb) (HQA.out w0 hb) (HRQ.out w0 hb) HLP.out HLR.out (by rw [HPL.out]; omega) (by rw [HRL.out]; omega) (by have h1 := HNN.out.1; have h2 := HNN.out.2.1; omega) HST.out)
                have C3 := Lib.hid (fun w0 (hb : Below wA.heap.size wA w0) => plainCheck_any W _ _ (k : Int) w0 ((HT.out.call HBO.out).call hb) ((HM.out.call HBO.out).call hb) ((HS.out.call HBO.out).call hb) (by have h1 := HNN.out.1; have h2 := HNN.out.2.1; omega))
                have C4 := Lib.hid (fun w0 (hb : Below wA.heap.size wA w0) => wantCheck_any W _ _ (k : Int) w0 ((HM.out.call HBO.out).call hb) ((HS.out.call HBO.out).call hb) (by have h1 := HNN.out.1; have h2 := HNN.out.2.1; omega))
                rw [HLN.out.1, HLN.out.2.1] at C1 C2 C3 C4
                obtain ⟨RS, hRS⟩ : ∃ x, fndS W P R = x := ⟨_, rfl⟩
                obtain ⟨RE, hRE⟩ : ∃ x, fndE W P R = x := ⟨_, rfl⟩
                obtain ⟨CK, hCK⟩ : ∃ x, wChk W (k : Int) = x := ⟨_, rfl⟩
                unfold wantV FndPost at C1 C2
                unfold wantV at C3 C4
                rw [hRS, hRE] at C1
                simp only [hRS, hRE] at C2
                rw [hCK] at C3 C4
                obtain ⟨rx, rr, rm⟩ := RS
                simp only at C1 C2
                clear hRS hRE hCK
                obtain ⟨f0, f1, f2, f3, f4, f5, f6⟩ := HC.out wA HBO.out
                go_upto_region 22 with (go_at_call 7; refine (C1.out).mono ?_; rintro e w3 ⟨v3, rfl, hv3, hb3⟩; obtain ⟨o3, c3, rfl⟩ := hv3.form; have HV3 := Lib.hid hv3; have HB3 := Lib.hid hb3; obtain ⟨n3, hn3⟩ : ∃ n, rm.length = n := ⟨_, rfl⟩; have HN3 := Lib.hid hn3; rw [hn3] at HV3 ⊢; clear hv3 hb3 hn3)
                clear f0 f1 f2 f3 f4 f5 f6
                obtain ⟨wS, hwS⟩ : ∃ W, w3.alloc (.cells #[.int .i64 rx, .int .i64 rr, .slice o3 n3 c3] 45) = W := ⟨_, rfl⟩
                obtain ⟨zS, hzS⟩ : ∃ z, w3.heap.size = z := ⟨_, rfl⟩
                have hbS : Below w3.heap.size w3 wS := by rw [← hwS]; exact (Below.refl _ _).alloc (Nat.le_refl _) _
                have HXS : Hid (SlBx wS zS rx rr (.slice o3 n3 c3)) := Lib.hid (by rw [← hwS, ← hzS]; exact SlBx.new _ _ _ _)
                have HBS := Lib.hid (HB3.out.trans (hbS.mono HB3.out.size))
                have HVS := Lib.hid (HV3.out.call hbS)
                have HZS : Hid (zS < wS.heap.size) := Lib.hid (by rw [← hwS, ← hzS]; simp)
                try simp only [hwS, hzS]
                clear hwS hzS hbS
                obtain ⟨f0, f1, f2, f3, f4, f5, f6⟩ := HC.out wS (HBO.out.trans (HBS.out.mono HBO.out.size))
                go_upto_region 23 with (go_at_call 8; refine (C2.out _ HBS.out).mono ?_; rintro e w5 ⟨v5, rfl, hv5, hb5⟩; obtain ⟨o5, c5, rfl⟩ := hv5.form; have HV5 := Lib.hid hv5; have HB5 := Lib.hid hb5; rw [HN3.out] at HV5 ⊢; clear hv5 hb5)
                clear f0 f1 f2 f3 f4 f5 f6
                obtain ⟨wU, hwU⟩ : ∃ W, w5.alloc (.cells #[.int .i64 rx, .int .i64 rr, .slice o5 n3 c5] 45) = W := ⟨_, rfl⟩
                obtain ⟨zU, hzU⟩ : ∃ z, w5.heap.size = z := ⟨_, rfl⟩
                have hbU : Below w5.heap.size w5 wU := by rw [← hwU]; exact (Below.refl _ _).alloc (Nat.le_refl _) _
                have HXU : Hid (SlBx wU zU rx rr (.slice o5 n3 c5)) := Lib.hid (by rw [← hwU, ← hzU]; exact SlBx.new _ _ _ _)
                have HBSU := Lib.hid (HB5.out.trans (hbU.mono HB5.out.size))
                have HVU := Lib.hid (HV5.out.call hbU)
                try simp only [hwU, hzU]
                clear hwU hzU hbU
                have HVS2 := Lib.hid (HVS.out.call HBSU.out)
                have HXS2 := Lib.hid (HXS.out.call HBSU.out HZS.out)
                have HBU := Lib.hid (HBS.out.trans (HBSU.out.mono HBS.out.size))
                have HBUO := Lib.hid (HBO.out.trans (HBU.out.mono HBO.out.size))
                have C5 := Lib.hid (fun w0 (hb : Below wU.heap.size wU w0) => listI_same _ _ _ _ rm w0 (HVS2.out.call hb) (HVU.out.call hb))
                have C3a := Lib.hid (fun w0 (hb : Below wU.heap.size wU w0) => C3.out w0 (HBU.out.trans (hb.mono HBU.out.size)))
                have C4a := Lib.hid (fun w0 (hb : Below wU.heap.size wU w0) => C4.out w0 (HBU.out.trans (hb.mono HBU.out.size)))
                obtain ⟨f0, f1, f2, f3, f4, f5, f6⟩ := HC.out wU HBUO.out
                have g0 := cell_regrown f0
                have g1 := cell_regrown f1
                have g2 := cell_regrown f2
                have g3 := cell_regrown f3
                have g4 := cell_regrown f4
                have g5 := cell_regrown f5
                have g6 := cell_regrown f6
                have x0 := cell_regrown HXS2.out.c0
                have x1 := cell_regrown HXS2.out.c1
                have x2 := cell_regrown HXS2.out.c2
                have y0 := cell_regrown HXU.out.c0
                have y1 := cell_regrown HXU.out.c1
                have y2 := cell_regrown HXU.out.c2
                clear f0 f1 f2 f3 f4 f5 f6 C1 C2 C3 C4
                refine wp_region_below (by kernel_rfl) (by kernel_rfl) ?_
                repeat (go_big_quiet_step (first | (go_at_call 9; exact Calls.regrown_of (by with_reducible exact C3a.out _ (below_regrown _ _ _))) | (go_at_call 10; exact Calls.regrown_of (by with_reducible exact C4a.out _ (below_regrown _ _ _))) | (go_at_call 11; exact Calls.regrown_of (by with_reducible exact C5.out _ (below_regrown _ _ _)))))
                refine wpQuiet_nil ?_
                intro w1 hb1
                go_wp2_with fail
                go_ret
                exact ⟨rfl, thenB HB0.out (HBUO.out.trans (hb1.mono HBUO.out.size))⟩
end Go.Proofs.YtbmndenopgkpoaaDoor
