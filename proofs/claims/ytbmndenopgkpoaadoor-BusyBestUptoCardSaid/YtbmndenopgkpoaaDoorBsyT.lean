/- The document's Find. -/
import Derived.Test.YtbmndenopgkpoaaDoorBsyR
namespace Go.Proofs.YtbmndenopgkpoaaDoor
open Go.RowKit Wrk Go.Shelf
set_option maxRecDepth 100000 in
set_option maxHeartbeats 32000000 in
theorem rfind_any (W : Wnt) (vm vs vp vr : Value) (P : List (List Iv)) (R : List Rm) (w : World) (hm : IntC w vm W.must) (hs : IntC w vs W.should) (hP : SetsR w vp P) (hR : RoomsR w vr R)
    (lP : ∀ l, l ∈ P → Norm l ∧ l.length ≤ 10000) (lR : ∀ r, r ∈ R → Norm r.2 ∧ r.2.length ≤ 10000) (nP : P.length ≤ 100000) (nR : R.length ≤ 1000000) (nMS : W.must.length + W.should.length ≤ 10000000) (iSt : InI W.step) :
    Calls Tryd.prog 8 #[wantV W vm vs, vp, vr] w (FndPost W P R (fun e => .int .i64 e) w) := by
  obtain ⟨om, cm, rfl⟩ := hm.form
  obtain ⟨os, cs, rfl⟩ := hs.form
  obtain ⟨op, cp, rfl⟩ := hP.form
  obtain ⟨or, cr, rfl⟩ := hR.form
  obtain ⟨wB, hwB, ⟨hb0, hlt⟩, f0, f1, f2, f3, f4, f5, f6⟩ := want_cells W (.slice om W.must.length cm) (.slice os W.should.length cs) w
  have HB0 := Lib.hid hb0
  have HLT := Lib.hid hlt
  obtain ⟨wC, hwC⟩ : ∃ wC, wB.alloc (.cells #[.int .i64 0, .int .i64 0, .slice none 0 0] 45) = wC := ⟨_, rfl⟩
  have hbC : Below wB.heap.size wB wC := by rw [← hwC]; exact (Below.refl _ _).alloc (Nat.le_refl _) _
  have hsC : wB.heap.size < wC.heap.size := by rw [← hwC]; simp
  have HR0 : Hid (SlBx wC wB.heap.size 0 0 (.slice none 0 0)) := Lib.hid (by rw [← hwC]; exact SlBx.new _ _ _ _)
  have HSC := Lib.hid hsC
  have HBC := Lib.hid (thenB hb0 hbC)
  obtain ⟨zB, hzB⟩ : ∃ z, wB.heap.size = z := ⟨_, rfl⟩
  have HZB := Lib.hid hzB
  obtain ⟨nm, hnm⟩ : ∃ x, W.must.length = x := ⟨_, rfl⟩
  obtain ⟨ns, hns⟩ : ∃ x, W.should.length = x := ⟨_, rfl⟩
  obtain ⟨np, hnp⟩ : ∃ x, P.length = x := ⟨_, rfl⟩
  obtain ⟨nr, hnr⟩ : ∃ x, R.length = x := ⟨_, rfl⟩
  have HC : Hid (∀ w', Below wC.heap.size wC w' → w'.cell? ⟨w.heap.size, 0, none⟩ = some (.int .i64 W.len) ∧ w'.cell? ⟨w.heap.size, 1, none⟩ = some (.int .i64 W.step) ∧ w'.cell? ⟨w.heap.size, 2, none⟩ = some (.int .i64 W.frm) ∧ w'.cell? ⟨w.heap.size, 3, none⟩ = some (.int .i64 W.to) ∧ w'.cell? ⟨w.heap.size, 4, none⟩ = some (.slice om nm cm) ∧ w'.cell? ⟨w.heap.size, 5, none⟩ = some (.slice os ns cs) ∧ w'.cell? ⟨w.heap.size, 6, none⟩ = some (.int .i64 W.seats)) := Lib.hid fun w' hb => by
    have hz : w.heap.size < wC.heap.size := Nat.lt_trans hlt hsC
    have k : ∀ j, w'.cell? ⟨w.heap.size, j, none⟩ = wB.cell? ⟨w.heap.size, j, none⟩ := fun j => (hb.cell (p := ⟨w.heap.size, j, none⟩) hz).trans (hbC.cell (p := ⟨w.heap.size, j, none⟩) hlt)
    rw [hnm] at f4
    rw [hns] at f5
    exact ⟨(k 0).trans f0, (k 1).trans f1, (k 2).trans f2, (k 3).trans f3, (k 4).trans f4, (k 5).trans f5, (k 6).trans f6⟩
  have HM := Lib.hid ((hm.call hb0).call hbC)
  have HS := Lib.hid ((hs.call hb0).call hbC)
  have HP := Lib.hid ((hP.call hb0).call hbC)
  have HR := Lib.hid ((hR.call hb0).call hbC)
  have C1 := Lib.hid (fun w0 (hb : Below wC.heap.size wC w0) => wantCheck_any W _ _ P.length w0 (HM.out.call hb) (HS.out.call hb) nMS)
  rw [hnm, hns, hnp] at C1
  have HNMS := Lib.hid nMS
  have HNPP := Lib.hid nP
  have HNR := Lib.hid nR
  have HLP := Lib.hid lP
  have HLR := Lib.hid lR
  have HNP := Lib.hid hnp
  have HLM := Lib.hid (And.intro hnm (And.intro hns hnr))
  have HWC := Lib.hid (fun h => wChk_ok (W := W) (n := np) h)
  have HND := Lib.hid (fun h => wChk_nodup (W := W) (n := np) h)
  rw [hnm, hns] at hwB ⊢
  rw [hnp, hnr]
  rw [hzB] at HR0
  have HST := Lib.hid iSt
  unfold wantV at C1
  unfold wantV
  clear hm hs hP hR hb0 hlt hbC hsC nMS nP nR lP lR hnm hns hnp hnr f0 f1 f2 f3 f4 f5 f6 iSt
  go_enter Tryd.func8, Tryd.ntmps8
  go_upto_region 1 with fail
  try simp only [hzB, hwC]
  clear hwB hwC hzB
  obtain ⟨f0, f1, f2, f3, f4, f5, f6⟩ := HC.out wC (Below.refl _ _)
  have HR1 : Hid (∀ w', Below wC.heap.size wC w' → SlBx w' zB 0 0 (.slice none 0 0)) := Lib.hid fun w' hb => HR0.out.call hb (by have := HSC.out; have := HZB.out; omega)
  have hzz : w.heap.size ≤ zB := by have := HZB.out; have := HB0.out.size; omega
  have HZZ := Lib.hid hzz
  clear hzz
  by_cases hE : wChk W np = 0
  · have hW := HWC.out hE
    rw [hE] at C1
    obtain ⟨l1, l2, st1, s1, ft, fr1, tt1, who⟩ := hW
    have HFS := Lib.hid (fun h => fnd_some (W := W) (P := P) (R := R) (c := h) (by rw [HNP.out]; exact hE))
    have HFN := Lib.hid (fnd_none (W := W) (P := P) (R := R) (by rw [HNP.out]; exact hE))
    have HSLOT : Hid (∀ (A r : Int) (Y : Bool) (m : List Int), Y = decide (missL P W.must A (A + W.len) = []) → (r = if W.seats = 0 then -1 else roomF R W.seats A (A + W.len) R.length) → m = sortL (missL P W.should A (A + W.len)) → (Y = true ∧ (W.seats = 0 ∨ 0 ≤ r) → slotR W P R A = some (r, m)) ∧ (¬ (Y = true ∧ (W.seats = 0 ∨ 0 ≤ r)) → slotR W P R A = none)) := Lib.hid fun A r Y m h1 h2 h3 => slot_of h1 h2 h3
    have HSORT : Hid (∀ A B, putL (missL P W.should A B) = sortL (missL P W.should A B)) := Lib.hid fun A B => putL_sort (HND.out hE)
    have HPLEN : Hid (∀ A B k, (putL (missL P (W.should.take k) A B)).length ≤ np) := Lib.hid fun A B k => putL_len fun x hx => who x (List.mem_append.2 (.inr (List.mem_of_mem_take hx)))
    have HWH := Lib.hid who
    rw [HLM.out.2.2] at HSLOT
    clear who
    have HFIN : Hid (findS W P R (fuelW W) W.frm none = findS W P R ((W.to - W.frm).toNat + 1) W.frm none) := Lib.hid rfl
    obtain ⟨FS, hFS⟩ : ∃ x, findS W P R (fuelW W) W.frm none = x := ⟨_, rfl⟩
    rw [hFS] at HFS HFN HFIN
    have HEND := Lib.hid (fun (A : Int) (b : Option Sl) (f : Nat) h => findS_end (W := W) (P := P) (R := R) (a := A) (b := b) f h)
    have HLAST := Lib.hid (fun (A : Int) (b : Option Sl) (f : Nat) h h2 => findS_last (W := W) (P := P) (R := R) (a := A) (b := b) (f := f) h h2)
    have HNEXT := Lib.hid (fun (A : Int) (b : Option Sl) (f : Nat) h h2 => findS_next (W := W) (P := P) (R := R) (a := A) (b := b) (f := f) h h2)
    have HFUEL := Lib.hid (fun f g A b h1 h2 => findS_fuel (W := W) (P := P) (R := R) st1 f g A b h1 h2)
    obtain ⟨FF, hFF⟩ : ∃ F, findS W P R = F := ⟨_, rfl⟩
    simp only [hFF] at HFIN HEND HLAST HNEXT HFUEL
    obtain ⟨SR, hSR⟩ : ∃ S, slotR W P R = S := ⟨_, rfl⟩
    simp only [hSR] at HSLOT HLAST HNEXT
    obtain ⟨ln, hln⟩ : ∃ x, W.len = x := ⟨_, rfl⟩
    obtain ⟨st, hst⟩ : ∃ x, W.step = x := ⟨_, rfl⟩
    obtain ⟨fr, hfr⟩ : ∃ x, W.frm = x := ⟨_, rfl⟩
    obtain ⟨tt, htt⟩ : ∃ x, W.to = x := ⟨_, rfl⟩
    obtain ⟨se, hse⟩ : ∃ x, W.seats = x := ⟨_, rfl⟩
    simp only [hln, hst, hfr, htt, hse] at C1 HSLOT HFIN HEND HLAST HNEXT HFUEL HC l1 l2 st1 s1 ft fr1 tt1 f0 f1 f2 f3 f6 HST ⊢
    clear hFS hFF hSR hln hst hfr htt hse hE HWC HND
    go_upto_region 4 with (go_at_call 10; refine (C1.out _ (Below.refl _ _)).mono ?_; rintro e w2 ⟨rfl, hb2⟩; have HB2 := Lib.hid hb2; clear hb2)
    clear f0 f1 f2 f3 f4 f5 f6
    go_upto_region 5 with fail
    obtain ⟨wD, hwD⟩ : ∃ wD, w2.alloc (.cells #[.int .i64 0, .int .i64 0, .slice none 0 0] 45) = wD := ⟨_, rfl⟩
    have hbD : Below w2.heap.size w2 wD := by rw [← hwD]; exact (Below.refl _ _).alloc (Nat.le_refl _) _
    have hsD : w2.heap.size < wD.heap.size := by rw [← hwD]; simp
    have HX0 : Hid (SlBx wD w2.heap.size 0 0 (.slice none 0 0)) := Lib.hid (by rw [← hwD]; exact SlBx.new _ _ _ _)
    obtain ⟨zE, hzE⟩ : ∃ z, w2.heap.size = z := ⟨_, rfl⟩
    have HZE : Hid (wC.heap.size ≤ zE) := Lib.hid (by rw [← hzE]; exact HB2.out.size)
    have HBD := Lib.hid (HB2.out.trans (hbD.mono HB2.out.size))
    rw [hzE] at HX0 hsD
    have HSD := Lib.hid hsD
    try simp only [hzE, hwD]
    clear hbD hsD hwD hzE
    obtain ⟨-, -, f2, -⟩ := HC.out wD HBD.out
    go_upto_region 6 with fail
    clear f2
    go_loopw [11, 12, 9] (fun x y z wr => ∃ (A : Int) (M F : Bool) (b : Option Sl) (bx br : Int) (bv : Value) (bm : List Int), x = .int .i64 A ∧ y = .bool M ∧ z = .bool F ∧ Hid (BestB wr zE wD.heap.size b F bx br bv bm) ∧ Hid (M = true → fr ≤ A ∧ A ≤ tt ∧ FS = FF ((tt - A).toNat + 1) A b) ∧ Hid (M = false → FS = b) ∧ Hid (Below wC.heap.size wC wr) ∧ Hid (wD.heap.size ≤ wr.heap.size)) (fun x y _ _ => mFnd tt x y)
    case atStart => exact ⟨fr, true, false, none, 0, 0, .slice none 0 0, [], rfl, rfl, rfl, Lib.hid ⟨HX0.out, IntL.nil _ _, by simp, (fun c h => by cases h), rfl⟩, Lib.hid (fun _ => ⟨Int.le_refl _, ft, HFIN.out⟩), Lib.hid (fun h => by cases h), HBD, Lib.hid (Nat.le_refl _)⟩
    case round =>
      obtain ⟨A, M, F, b, bx, br, bv, bm, rfl, rfl, rfl, HB, HT, HF, HBk, HSk⟩ := hrel
      obtain ⟨ob, cb, rfl⟩ := HB.out.row.form
      have HBL := Lib.hid HB.out.len
      obtain ⟨nb, hnb⟩ : ∃ n, bm.length = n := ⟨_, rfl⟩
      have HNB := Lib.hid hnb
      rw [hnb] at HB
      clear hnb
      cases M with
      | false =>
        have HFb := Lib.hid (HF.out rfl)
        have HWr := Lib.hid (thenB HBC.out HBk.out)
        have HR2 := Lib.hid (HR1.out wr HBk.out)
        have r0 := HR2.out.c0
        have r1 := HR2.out.c1
        have r2 := HR2.out.c2
        have q0 := HR2.out.f0
        have q1 := HR2.out.f1
        have q2 := HR2.out.f2
        cases F with
        | false =>
          have hb0 : b = none := by
            have := HB.out.found
            cases b
            · rfl
            · cases this
          have HRES := Lib.hid (HFN.out (HFb.out.trans hb0))
          clear hb0
          go_wp2_with fail
          have HG := HR2.out.put 0 0 (.slice none 0 0)
          refine bodyPost_ret (v := .tuple #[.agg #[.int .i64 0, .int .i64 0, .slice none 0 0], .int .i64 12]) (by simp [results, Tryd.results8, go_sem, HG.c0, HG.c1, HG.c2]) rfl ?_
          unfold FndPost
          rw [HRES.out.1, HRES.out.2]
          exact ⟨.slice none 0 0, rfl, IntL.nil _ _, below_put3 HWr.out HZZ.out _ _ _⟩
        | true =>
          obtain ⟨c, hc⟩ : ∃ c, b = some c := by
            have := HB.out.found
            cases b with
            | none => cases this
            | some c => exact ⟨c, rfl⟩
          have hc2 := HB.out.is c hc
          subst hc2
          have HRES := Lib.hid (HFS.out _ (HFb.out.trans hc))
          have x0 := HB.out.box.c0
          have x1 := HB.out.box.c1
          have x2 := HB.out.box.c2
          have HROW := Lib.hid HB.out.row
          have hzd : zB < wD.heap.size := by have h1 := HZB.out; have h2 := HSC.out; have h3 := HZE.out; have h4 := HSD.out; omega
          have hwz : w.heap.size ≤ wD.heap.size := by have h1 := HZZ.out; omega
          clear hc
          go_wp2_with fail
          have HG := HR2.out.put bx br (.slice ob nb cb)
          refine bodyPost_ret (v := .tuple #[.agg #[.int .i64 bx, .int .i64 br, .slice ob nb cb], .int .i64 0]) (by simp [results, Tryd.results8, go_sem, HG.c0, HG.c1, HG.c2]) rfl ?_
          unfold FndPost
          rw [HRES.out.1, HRES.out.2]
          exact ⟨.slice ob nb cb, rfl, IntL.low (IntL.far (IntL.far (IntL.far HROW.out (p := ⟨zB, 0, none⟩) hzd _) (p := ⟨zB, 1, none⟩) hzd _) (p := ⟨zB, 2, none⟩) hzd _) hwz, below_put3 HWr.out HZZ.out _ _ _⟩
      | true =>
        obtain ⟨A1, A2, hFA⟩ := HT.out rfl
        have HFA := Lib.hid hFA
        clear hFA
        obtain ⟨f0, f1, f2, f3, f4, f5, f6⟩ := HC.out wr HBk.out
        have e1 : wrap64 (A + ln) = A + ln := wrap_in (InI.mk (by omega) (by omega))
        by_cases hend : A + ln ≤ tt
        · have HZr : Hid (zE < wr.heap.size) := Lib.hid (Nat.lt_of_lt_of_le HSD.out HSk.out)
          have e1b : IntKind.i64.wrap (A + ln) = A + ln := IntWalk.i64_in _ (by omega)
          have hAl : A < A + ln := by omega
          have hnms : nm + ns ≤ 10000000 := by have := HNMS.out; rw [HLM.out.1, HLM.out.2.1] at this; exact this
          have hnr2 : nr ≤ 1000000 := by have := HNR.out; rw [HLM.out.2.2] at this; exact this
          have hnp2 : np ≤ 100000 := by have := HNPP.out; rw [HNP.out] at this; exact this
          go_upto_region 10 with fail
          clear f0 f1 f2 f3 f4 f5 f6
          obtain ⟨wO, hwO⟩ : ∃ W : World, W = wr := ⟨_, rfl⟩
          subst hwO
          go_loopw [13, 55] (fun y c wr => ∃ (Y : Bool) (k : Nat), y = .bool Y ∧ c = .int .i64 (k : Int) ∧ k ≤ nm ∧ Hid (Y = decide (missL P (W.must.take k) A (A + ln) = [])) ∧ Hid (Below wO.heap.size wO wr)) (fun _ c _ => nm - (intOf c).toNat)
          case atStart => exact ⟨true, 0, rfl, rfl, by omega, Lib.hid rfl, Lib.hid (Below.refl _ _)⟩
          case round =>
            obtain ⟨Y, k, rfl, rfl, hk, HY, HBx⟩ := hrel
            have HBkx := Lib.hid (HBk.out.trans (HBx.out.mono HBk.out.size))
            obtain ⟨f0, -⟩ := HC.out wr HBkx.out
            by_cases hkn : k < nm
            · have hk' : k < W.must.length := by rw [HLM.out.1]; exact hkn
              obtain ⟨am, rfl, hcm⟩ := (HM.out.call HBkx.out).at hk'
              have HTK := Lib.hid (missL_take (P := P) hk' A (A + ln))
              have hx := HWH.out (W.must.getD k 0) (List.mem_append.2 (.inl (at_mem hk')))
              obtain ⟨x, hxx⟩ : ∃ x, W.must.getD k 0 = x := ⟨_, rfl⟩
              rw [hxx] at hcm hx HTK
              obtain ⟨xn, hxn⟩ : ∃ n : Nat, x = n := ⟨x.toNat, by omega⟩
              subst hxn
              obtain ⟨ap, oc, c, rfl, hcp, hiv⟩ := (HP.out.call HBkx.out).at (k := xn) (by rw [HNP.out]; omega)
              have hln := HLP.out (P.getD xn []) (by rw [List.getD_eq_getElem?_getD, List.getElem?_eq_getElem (show xn < P.length by rw [HNP.out]; omega)]; exact List.getElem_mem _)
              rw [Int.toNat_natCast] at HTK
              obtain ⟨Lx, hLx⟩ : ∃ L, P.getD xn [] = L := ⟨_, rfl⟩
              rw [hLx] at hcp hiv hln HTK
              have CN := Lib.hid (fun w0 (hb : Below wr.heap.size wr w0) => rcan_any 0 _ Lx A (A + ln) w0 (hiv.call hb) hln.1 hln.2 hAl)
              obtain ⟨nx, hnx⟩ : ∃ n, Lx.length = n := ⟨_, rfl⟩
              rw [hnx] at hcp CN
              obtain ⟨cb, hcb⟩ : ∃ q, canB Lx A (A + ln) = q := ⟨_, rfl⟩
              rw [hcb] at CN HTK
              have HY2 : Hid ((Y && cb) = decide (missL P (W.must.take (k + 1)) A (A + ln) = [])) := Lib.hid (by rw [HTK.out, HY.out]; cases cb <;> simp)
              have k1 : (k : Int) < (nm : Int) := by omega
              have k2 : (0 : Int) ≤ (k : Int) := by omega
              have k3 : (xn : Int) < (np : Int) := by omega
              have k4 : (0 : Int) ≤ (xn : Int) := by omega
              clear hxx hLx hnx hcb hiv hx hln HTK
              go_upto_region 12 with fail
              obtain ⟨wA, hwA⟩ : ∃ W : World, W = wr := ⟨_, rfl⟩
              subst hwA
              have g0 := cell_regrown f0
              have g1 := cell_regrown hcp
              clear f0 hcp hcm
              cases Y with
              | true =>
                refine wp_region_below (by kernel_rfl) (by kernel_rfl) ?_
                repeat (go_big_quiet_step ((go_at_call 20; exact Calls.regrown_of (by with_reducible exact CN.out _ (below_regrown _ _ _)))))
                refine wpQuiet_nil ?_
                intro w1 hb1
                have HB2 := Lib.hid (HBx.out.trans (hb1.mono HBx.out.size))
                clear g0 g1 hb1
                go_wp2_with fail
                go_roundw
                case rel => exact ⟨cb, k + 1, rfl, by go_num, by omega, HY2, HB2⟩
                case measure => simp [intOf]; omega
              | false =>
                refine wp_region_below (by kernel_rfl) (by kernel_rfl) ?_
                repeat (go_big_quiet_step ((go_at_call 20; exact Calls.regrown_of (by with_reducible exact CN.out _ (below_regrown _ _ _)))))
                refine wpQuiet_nil ?_
                intro w1 hb1
                have HB2 := Lib.hid (HBx.out.trans (hb1.mono HBx.out.size))
                clear g0 g1 hb1
                go_wp2_with fail
                go_roundw
                case rel => exact ⟨false, k + 1, rfl, by go_num, by omega, HY2, HB2⟩
                case measure => simp [intOf]; omega
            · have hkk : k = nm := by omega
              subst hkk
              have HYF : Hid (Y = decide (missL P W.must A (A + ln) = [])) := Lib.hid (by have := HY.out; rwa [← HLM.out.1, List.take_length] at this)
              clear HY f0
              go_upto_region 14 with fail
              go_upto_region 15 with fail
              obtain ⟨wS, hwS⟩ : ∃ W, wr.alloc (.cells #[.int .i64 A, .int .i64 (-1), .slice none 0 0] 45) = W := ⟨_, rfl⟩
              have hbS : Below wr.heap.size wr wS := by rw [← hwS]; exact (Below.refl _ _).alloc (Nat.le_refl _) _
              have hsS : wr.heap.size < wS.heap.size := by rw [← hwS]; simp
              have HXS : Hid (SlBx wS wr.heap.size A (-1) (.slice none 0 0)) := Lib.hid (by rw [← hwS]; exact SlBx.new _ _ _ _)
              obtain ⟨zS, hzS⟩ : ∃ z, wr.heap.size = z := ⟨_, rfl⟩
              have HBOS := Lib.hid (HBx.out.trans (hbS.mono HBx.out.size))
              have HBKS := Lib.hid (HBkx.out.trans (hbS.mono HBkx.out.size))
              have HZOS : Hid (wO.heap.size ≤ zS) := Lib.hid (by rw [← hzS]; exact HBx.out.size)
              rw [hzS] at HXS hsS
              have HSS := Lib.hid hsS
              try simp only [hzS, hwS]
              clear hbS hsS hwS hzS HBx HBkx
              obtain ⟨-, -, -, -, -, f5, -⟩ := HC.out wS HBKS.out
              go_upto_region 16 with fail
              clear f5
              go_loopw [78] (fun c wr => ∃ (k : Nat) (v : Value), c = .int .i64 (k : Int) ∧ k ≤ ns ∧ Hid (SlBx wr zS A (-1) v) ∧ Hid (IntL wr wS.heap.size v (putL (missL P (W.should.take k) A (A + ln)))) ∧ Hid (Below zS wS wr)) (fun c _ => ns - (intOf c).toNat)
              case atStart => exact ⟨0, _, rfl, by omega, HXS, Lib.hid (IntL.nil _ _), Lib.hid (Below.refl _ _)⟩
              case round =>
                obtain ⟨k, v, rfl, hk, HX, HV, HBS⟩ := hrel
                have HBO3 := Lib.hid (HBOS.out.trans (HBS.out.mono HZOS.out))
                have HBK3 := Lib.hid (HBk.out.trans (HBO3.out.mono HBk.out.size))
                have HZr3 : Hid (zS < wr.heap.size) := Lib.hid (Nat.lt_of_lt_of_le HSS.out HBS.out.size)
                obtain ⟨f0, -⟩ := HC.out wr HBK3.out
                by_cases hkn : k < ns
                · have hk' : k < W.should.length := by rw [HLM.out.2.1]; exact hkn
                  obtain ⟨am, rfl, hcm⟩ := (HS.out.call HBK3.out).at hk'
                  have HTK := Lib.hid (missL_take (P := P) hk' A (A + ln))
                  have hx := HWH.out (W.should.getD k 0) (List.mem_append.2 (.inr (at_mem hk')))
                  obtain ⟨x, hxx⟩ : ∃ x, W.should.getD k 0 = x := ⟨_, rfl⟩
                  rw [hxx] at hcm hx HTK
                  obtain ⟨xn, hxn⟩ : ∃ n : Nat, x = n := ⟨x.toNat, by omega⟩
                  subst hxn
                  obtain ⟨ap, oc, c, rfl, hcp, hiv⟩ := (HP.out.call HBK3.out).at (k := xn) (by rw [HNP.out]; omega)
                  have hln := HLP.out (P.getD xn []) (by rw [List.getD_eq_getElem?_getD, List.getElem?_eq_getElem (show xn < P.length by rw [HNP.out]; omega)]; exact List.getElem_mem _)
                  rw [Int.toNat_natCast] at HTK
                  obtain ⟨Lx, hLx⟩ : ∃ L, P.getD xn [] = L := ⟨_, rfl⟩
                  rw [hLx] at hcp hiv hln HTK
                  have CN := Lib.hid (fun w0 (hb : Below wr.heap.size wr w0) => rcan_any 0 _ Lx A (A + ln) w0 (hiv.call hb) hln.1 hln.2 hAl)
                  obtain ⟨nx, hnx⟩ : ∃ n, Lx.length = n := ⟨_, rfl⟩
                  rw [hnx] at hcp CN
                  obtain ⟨cb, hcb⟩ : ∃ q, canB Lx A (A + ln) = q := ⟨_, rfl⟩
                  rw [hcb] at CN HTK
                  obtain ⟨ML, hML⟩ : ∃ L, putL (missL P (W.should.take k) A (A + ln)) = L := ⟨_, rfl⟩
                  have hml := HPLEN.out A (A + ln) k
                  have HMT : Hid (cb = true → putL (missL P (W.should.take (k + 1)) A (A + ln)) = ML) := Lib.hid fun h => by rw [HTK.out, h, ← hML]; simp
                  have HMF : Hid (cb = false → putL (missL P (W.should.take (k + 1)) A (A + ln)) = put ML (xn : Int)) := Lib.hid fun h => by rw [HTK.out, h, ← hML, ← putL_snoc]; simp
                  rw [hML] at HV hml
                  have k1 : (k : Int) < (ns : Int) := by omega
                  have k2 : (0 : Int) ≤ (k : Int) := by omega
                  have k3 : (xn : Int) < (np : Int) := by omega
                  have k4 : (0 : Int) ≤ (xn : Int) := by omega
                  clear hxx hLx hnx hcb hiv hx hln HTK hML
                  go_upto_region 18 with fail
                  obtain ⟨wA, hwA⟩ : ∃ W : World, W = wr := ⟨_, rfl⟩
                  subst hwA
                  have g0 := cell_regrown f0
                  have g1 := cell_regrown hcp
                  clear f0 hcp hcm
                  go_cut [92] from 82 to 91 (fun q wz => q = .bool (!cb) ∧ Hid (Below wA.heap.size wA wz))
                  case first =>
                    refine wp_region_below (by kernel_rfl) (by kernel_rfl) ?_
                    repeat (go_big_quiet_step ((go_at_call 20; exact Calls.regrown_of (by with_reducible exact CN.out _ (below_regrown _ _ _)))))
                    refine wpQuiet_nil ?_
                    intro w1 hb1
                    go_wp2_with fail
                    go_meet
                    exact ⟨rfl, Lib.hid hb1⟩
                  case rest =>
                    obtain ⟨rfl, HBX⟩ := hcut
                    have HX2 := Lib.hid (HX.out.call HBX.out HZr3.out)
                    have HV2 := Lib.hid (HV.out.call HBX.out)
                    have HB2 := Lib.hid (HBS.out.trans (HBX.out.mono (Nat.le_of_lt HZr3.out)))
                    have HZ2 := Lib.hid (Nat.lt_of_lt_of_le HZr3.out HBX.out.size)
                    clear g0 g1
                    cases cb with
                    | true =>
                      have HM3 := Lib.hid (HMT.out rfl)
                      go_wp2_with fail
                      go_roundw
                      case rel => exact ⟨k + 1, v, by go_num, by omega, HX2, Lib.hid (by rw [HM3.out]; exact HV2.out), HB2⟩
                      case measure => simp [intOf]; omega
                    | false =>
                      have HM3 := Lib.hid (HMF.out rfl)
                      have x2 := HX2.out.c2
                      have hszc : wS.heap.size ≤ wc.heap.size := HB2.out.size
                      have CP := Lib.hid (put_any v wS.heap.size ML (xn : Int) wc HV2.out (by omega) hszc)
                      go_wp2_with (go_at_call 21; refine CP.out.mono ?_; rintro e w5 ⟨v5, rfl, hv5, hb5⟩; obtain ⟨o5, c5, rfl⟩ := hv5.form; have HV5 := Lib.hid hv5; have HB5 := Lib.hid hb5; have HX5 := Lib.hid (HX2.out.call hb5 HZ2.out); have x5 := HX5.out.c2; have y5 := HX5.out.f2; clear hv5 hb5)
                      go_roundw
                      case rel => exact ⟨k + 1, _, by go_num, by omega, Lib.hid (HX5.out.set2 _), Lib.hid (by rw [HM3.out]; exact IntL.far HV5.out (p := ⟨zS, 2, none⟩) HSS.out _), Lib.hid ((HB2.out.trans (HB5.out.mono (Nat.le_of_lt HZ2.out))).setCell (p := ⟨zS, 2, none⟩) (Nat.le_refl _) _)⟩
                      case measure => simp [intOf]; omega
                · have hkk : k = ns := by omega
                  subst hkk
                  have HV0 : Hid (IntL wr wS.heap.size v (putL (missL P W.should A (A + ln)))) := Lib.hid (by have := HV.out; rwa [← HLM.out.2.1, List.take_length] at this)
                  have hml := HPLEN.out A (A + ln) W.should.length
                  rw [List.take_length] at hml
                  rw [HSORT.out] at HV0 hml
                  obtain ⟨ML, hML⟩ : ∃ L, sortL (missL P W.should A (A + ln)) = L := ⟨_, rfl⟩
                  have HML := Lib.hid hML
                  rw [hML] at HV0 hml
                  obtain ⟨ov, cv, rfl⟩ := HV0.out.form
                  obtain ⟨q, hqq⟩ : ∃ q, ML.length = q := ⟨_, rfl⟩
                  have HQ0 := Lib.hid hqq
                  rw [hqq] at HV0 HX hml
                  clear HV hML hqq f0
                  have e5 : wrap64 ((nr : Int) - 1) = (nr : Int) - 1 := wrap_in (InI.mk (by omega) (by omega))
                  go_upto_region 22 with fail
                  clear e5
                  go_loopw [19] (fun c wr => ∃ (I : Int) (j : Nat), c = .int .i64 I ∧ Hid (I = (nr : Int) - 1 - j) ∧ j ≤ nr ∧ Hid (se = 0 → j = 0) ∧ Hid (SlBx wr zS A (roomG R se A (A + ln) nr j) (.slice ov q cv)) ∧ Hid (IntL wr wS.heap.size (.slice ov q cv) ML) ∧ Hid (Below zS wS wr)) (fun c _ => (intOf c + 1).toNat)
                  case atStart => exact ⟨_, 0, rfl, Lib.hid (by omega), by omega, Lib.hid fun _ => rfl, HX, HV0, HBS⟩
                  case round =>
                    clear HX HV0 HBS HBO3 HBK3 HZr3
                    obtain ⟨I, j, rfl, HIx, hj, HJ0, HX, HV0, HBS⟩ := hrel
                    have HBO3 := Lib.hid (HBOS.out.trans (HBS.out.mono HZOS.out))
                    have HBK3 := Lib.hid (HBk.out.trans (HBO3.out.mono HBk.out.size))
                    have HZr3 : Hid (zS < wr.heap.size) := Lib.hid (Nat.lt_of_lt_of_le HSS.out HBS.out.size)
                    obtain ⟨f0, -, -, -, -, -, f6⟩ := HC.out wr HBK3.out
                    have rb := roomG_bd R se A (A + ln) nr j hj
                    obtain ⟨TG, hTG⟩ : ∃ b : Bool, decide (0 ≤ I ∧ 0 < se) = b := ⟨_, rfl⟩
                    have HTG := Lib.hid hTG
                    clear hTG
                    obtain ⟨wA, hwA⟩ : ∃ W : World, W = wr := ⟨_, rfl⟩
                    subst hwA
                    go_upto_region 22 with fail
                    go_cut [108] from 102 to 107 (fun q wz => q = .bool TG ∧ wA = wz)
                    case first =>
                      by_cases g1 : 0 ≤ I
                      · have eT : TG = decide (0 < se) := by rw [← HTG.out]; simp [g1]
                        subst eT
                        go_wp2_with fail
                        go_meet
                        exact ⟨bvE (by simp), rfl⟩
                      · have eT : TG = false := by rw [← HTG.out]; simp [g1]
                        subst eT
                        go_wp2_with fail
                        go_meet
                        exact ⟨rfl, rfl⟩
                    case rest =>
                      obtain ⟨rfl, rfl⟩ := hcut
                      cases TG with
                      | true =>
                        obtain ⟨hI0, hse0⟩ := of_decide_eq_true HTG.out
                        obtain ⟨kn, hkn⟩ : ∃ kn : Nat, I = kn := ⟨I.toNat, by omega⟩
                        subst hkn
                        have hkj : nr - 1 - j = kn := by have := HIx.out; omega
                        have hk' : kn < R.length := by rw [HLM.out.2.2]; have := HIx.out; omega
                        have hRC := HR.out.call HBK3.out
                        obtain ⟨ar, oc, c, rfl, hc0, hc1, hiv⟩ := hRC.at hk'
                        have hlx := HLR.out (R.getD kn rm0) (by rw [List.getD_eq_getElem?_getD, List.getElem?_eq_getElem hk']; exact List.getElem_mem _)
                        have HTA := Lib.hid (fun h => roomG_take (R := R) (se := se) (a := A) (b := A + ln) (n := nr) (j := j) h)
                        have HTK := Lib.hid (fun h => roomG_keep (R := R) (se := se) (a := A) (b := A + ln) (n := nr) (j := j) h)
                        rw [hkj] at HTA HTK
                        have HCL := Lib.hid (fun h => candB_low (R := R) (se := se) (a := A) (b := A + ln) (k := kn) h)
                        have HCA := Lib.hid (fun h => candB_at (R := R) (se := se) (a := A) (b := A + ln) (k := kn) h)
                        have HRM : Hid (∀ i : Nat, i < nr → ∃ Sj, (R.getD i rm0).1 = Sj ∧ wA.cell? (ar.add (i * 2)) = some (.int .i64 Sj)) := Lib.hid fun i hi => by
                          obtain ⟨ar', oc', c', e, h0, -, -⟩ := hRC.at (k := i) (by rw [HLM.out.2.2]; exact hi)
                          cases e
                          exact ⟨_, rfl, h0⟩
                        obtain ⟨Sk, hSk⟩ : ∃ S, (R.getD kn rm0).1 = S := ⟨_, rfl⟩
                        obtain ⟨Lx, hLx⟩ : ∃ L, (R.getD kn rm0).2 = L := ⟨_, rfl⟩
                        rw [hLx] at hc1 hiv hlx HCA
                        rw [hSk] at hc0 HTA HTK HCL HCA
                        have CN := Lib.hid (fun w0 (hb : Below wA.heap.size wA w0) => rcan_any 0 _ Lx A (A + ln) w0 (hiv.call hb) hlx.1 hlx.2 hAl)
                        obtain ⟨nx, hnx⟩ : ∃ n, Lx.length = n := ⟨_, rfl⟩
                        rw [hnx] at hc1 CN
                        obtain ⟨cb, hcb⟩ : ∃ q, canB Lx A (A + ln) = q := ⟨_, rfl⟩
                        rw [hcb] at CN HCA
                        obtain ⟨r, hr⟩ : ∃ r, roomG R se A (A + ln) nr j = r := ⟨_, rfl⟩
                        rw [hr] at HX HTA HTK rb
                        have k1 : (kn : Int) < (nr : Int) := by have := HIx.out; omega
                        have k2 : (0 : Int) ≤ (kn : Int) := by omega
                        obtain ⟨TB, hTB⟩ : ∃ b : Bool, decide (candB R se A (A + ln) kn = true ∧ (r < 0 ∨ Sk ≤ (R.getD r.toNat rm0).1)) = b := ⟨_, rfl⟩
                        have HTB := Lib.hid hTB
                        have x1 := HX.out.c1
                        have g0 := cell_regrown f0
                        have g6 := cell_regrown f6
                        have g1 := cell_regrown x1
                        have s0 := cell_regrown hc0
                        have s1 := cell_regrown hc1
                        have e6 : wrap64 ((kn : Int) - 1) = (kn : Int) - 1 := wrap_in (InI.mk (by omega) (by omega))
                        clear hSk hLx hnx hcb hr hTB hlx hiv hRC f0 f6 x1 hc0 hc1
                        go_upto_region 24 with fail
                        go_cut [150] from 111 to 149 (fun q wx => q = .bool TB ∧ Hid (Below wA.heap.size wA wx))
                        case first =>
                          clear e6
                          by_cases h1 : se ≤ Sk
                          · have ec := HCA.out h1
                            have d0 : decide (se ≤ Sk) = true := decide_eq_true h1
                            by_cases h2 : r < 0
                            · have eT : TB = cb := by rw [← HTB.out, ec]; simp [h2]
                              have d2 : decide (r < 0) = true := decide_eq_true h2
                              subst eT
                              clear ec
                              refine wp_region_below (by kernel_rfl) (by kernel_rfl) ?_
                              repeat (go_big_quiet_step ((go_at_call 20; exact Calls.regrown_of (by with_reducible exact CN.out _ (below_regrown _ _ _)))))
                              refine wpQuiet_nil ?_
                              intro w1 hb1
                              go_wp2_with fail
                              go_meet
                              exact ⟨rfl, Lib.hid hb1⟩
                            · obtain ⟨rn, hrn⟩ : ∃ n : Nat, r = n := ⟨r.toNat, by omega⟩
                              subst hrn
                              obtain ⟨Sj, hSj, hcj⟩ := HRM.out rn (by omega)
                              have t1 := cell_regrown hcj
                              have dr : decide ((rn : Int) < 0) = false := decide_eq_false h2
                              have k5 : (rn : Int) < (nr : Int) := by omega
                              have k6 : (0 : Int) ≤ (rn : Int) := by omega
                              by_cases h3 : Sk ≤ Sj
                              · have eT : TB = cb := by rw [← HTB.out, ec, Int.toNat_natCast, hSj]; simp [h3]
                                have d3 : decide (Sk ≤ Sj) = true := decide_eq_true h3
                                subst eT
                                clear ec hSj hcj
                                refine wp_region_below (by kernel_rfl) (by kernel_rfl) ?_
                                repeat (go_big_quiet_step ((go_at_call 20; exact Calls.regrown_of (by with_reducible exact CN.out _ (below_regrown _ _ _)))))
                                refine wpQuiet_nil ?_
                                intro w1 hb1
                                go_wp2_with fail
                                go_meet
                                exact ⟨rfl, Lib.hid hb1⟩
                              · have eT : TB = false := by rw [← HTB.out, ec, Int.toNat_natCast, hSj]; simp [h3]
                                have d3 : decide (Sk ≤ Sj) = false := decide_eq_false h3
                                subst eT
                                clear ec hSj hcj
                                refine wp_region_below (by kernel_rfl) (by kernel_rfl) ?_
                                repeat (go_big_quiet_step ((go_at_call 20; exact Calls.regrown_of (by with_reducible exact CN.out _ (below_regrown _ _ _)))))
                                refine wpQuiet_nil ?_
                                intro w1 hb1
                                go_wp2_with fail
                                go_meet
                                exact ⟨rfl, Lib.hid hb1⟩
                          · have ec := HCL.out h1
                            have eT : TB = false := by rw [← HTB.out, ec]; simp
                            subst eT
                            have ds : decide (se ≤ Sk) = false := decide_eq_false h1
                            clear ec
                            refine wp_region_below (by kernel_rfl) (by kernel_rfl) ?_
                            repeat (go_big_quiet_step ((go_at_call 20; exact Calls.regrown_of (by with_reducible exact CN.out _ (below_regrown _ _ _)))))
                            refine wpQuiet_nil ?_
                            intro w1 hb1
                            go_wp2_with fail
                            go_meet
                            exact ⟨rfl, Lib.hid hb1⟩
                        case rest =>
                          obtain ⟨rfl, HBX⟩ := hcut
                          have HXc := Lib.hid (HX.out.call HBX.out HZr3.out)
                          have HVc := Lib.hid (HV0.out.call HBX.out)
                          have HBc5 := Lib.hid (HBS.out.trans (HBX.out.mono (Nat.le_of_lt HZr3.out)))
                          clear g0 g6 g1 s0 s1
                          cases TB with
                          | true =>
                            have HRT := Lib.hid (HTA.out (of_decide_eq_true HTB.out))
                            have x1 := HXc.out.c1
                            have y1 := HXc.out.f1
                            go_wp2_with fail
                            clear x1 y1
                            go_roundw
                            case rel => exact ⟨(kn : Int) - 1, j + 1, rfl, Lib.hid (by have := HIx.out; omega), (by have := HIx.out; omega), Lib.hid (fun h => absurd h (by omega)), Lib.hid (by rw [HRT.out]; exact HXc.out.set1 _), Lib.hid (HVc.out.far (p := ⟨zS, 1, none⟩) HSS.out _), Lib.hid (HBc5.out.setCell (p := ⟨zS, 1, none⟩) (Nat.le_refl _) _)⟩
                            case measure => simp [intOf]
                          | false =>
                            have HRK := Lib.hid (HTK.out (of_decide_eq_false HTB.out))
                            go_wp2_with fail
                            go_roundw
                            case rel => exact ⟨(kn : Int) - 1, j + 1, rfl, Lib.hid (by have := HIx.out; omega), (by have := HIx.out; omega), Lib.hid (fun h => absurd h (by omega)), Lib.hid (by rw [HRK.out]; exact HXc.out), HVc, HBc5⟩
                            case measure => simp [intOf]
                      | false =>
                        have hex := of_decide_eq_false HTG.out
                        have HRF : Hid (roomG R se A (A + ln) nr j = if se = 0 then -1 else roomF R se A (A + ln) nr) := Lib.hid (by
                          by_cases h0 : se = 0
                          · rw [HJ0.out h0, if_pos h0]; rfl
                          · rw [if_neg h0, ← room_same, show j = nr by have := HIx.out; omega])
                        obtain ⟨r, hr⟩ : ∃ r, roomG R se A (A + ln) nr j = r := ⟨_, rfl⟩
                        rw [hr] at HX HRF rb
                        have HSA := Lib.hid (HSLOT.out A r Y ML HYF.out HRF.out HML.out.symm)
                        clear hr hex f0
                        obtain ⟨wE, hwE⟩ : ∃ W : World, W = wA := ⟨_, rfl⟩
                        subst hwE
                        have HBBE := Lib.hid (HB.out.call HBO3.out HZr.out)
                        have HCE := HBK3
                        have HZE2 : Hid (zE < wE.heap.size) := Lib.hid (Nat.lt_of_lt_of_le HZr.out HBO3.out.size)
                        have HSE2 : Hid (wD.heap.size ≤ wE.heap.size) := Lib.hid (Nat.le_trans HSk.out HBO3.out.size)
                        have HVE : Hid (IntL wE wD.heap.size (.slice ov q cv) ML) := Lib.hid (HV0.out.low (by have h1 := HSk.out; have h2 := HZOS.out; have h3 := HSS.out; omega))
                        obtain ⟨TB, hTB⟩ : ∃ t : Bool, decide ((Y = true ∧ (se = 0 ∨ 0 ≤ r)) ∧ (F = false ∨ q < nb)) = t := ⟨_, rfl⟩
                        have HTB := Lib.hid hTB
                        have x1 := HX.out.c1
                        have s2 := HX.out.c2
                        have b2 := HBBE.out.box.c2
                        clear hTB
                        go_upto_region 26 with fail
                        go_cut [176] from 153 to 175 (fun qv wx => qv = .bool TB ∧ wE = wx)
                        case first =>
                          cases Y with
                          | false =>
                            have eT : TB = false := by rw [← HTB.out]; simp
                            subst eT
                            go_wp2_with fail
                            go_meet
                            exact ⟨rfl, rfl⟩
                          | true =>
                            by_cases h0 : se = 0
                            · have d0 : (se == 0) = true := by simpa using h0
                              cases F with
                              | false =>
                                have eT : TB = true := by rw [← HTB.out]; simp [h0]
                                subst eT
                                clear h0
                                go_wp2_with fail
                                go_meet
                                exact ⟨rfl, rfl⟩
                              | true =>
                                have eT : TB = decide (q < nb) := by rw [← HTB.out]; simp [h0]
                                subst eT
                                clear h0
                                go_wp2_with fail
                                go_meet
                                exact ⟨bvE (by simp), rfl⟩
                            · have d0 : (se == 0) = false := by simpa using h0
                              by_cases h1 : 0 ≤ r
                              · have d1 : decide (0 ≤ r) = true := decide_eq_true h1
                                cases F with
                                | false =>
                                  have eT : TB = true := by rw [← HTB.out]; simp [h1]
                                  subst eT
                                  clear h0
                                  go_wp2_with fail
                                  go_meet
                                  exact ⟨rfl, rfl⟩
                                | true =>
                                  have eT : TB = decide (q < nb) := by rw [← HTB.out]; simp [h1]
                                  subst eT
                                  clear h0
                                  go_wp2_with fail
                                  go_meet
                                  exact ⟨bvE (by simp), rfl⟩
                              · have d1 : decide (0 ≤ r) = false := decide_eq_false h1
                                have eT : TB = false := by rw [← HTB.out]; simp [h0, h1]
                                subst eT
                                clear h0
                                go_wp2_with fail
                                go_meet
                                exact ⟨rfl, rfl⟩
                        case rest =>
                          obtain ⟨rfl, rfl⟩ := hcut
                          clear s2 b2 x1 f6
                          obtain ⟨-, f1, -, f3, -⟩ := HC.out wE HCE.out
                          cases TB with
                          | true =>
                            have ht := of_decide_eq_true HTB.out
                            have HNB2 : Hid (better b A (SR A) = some (A, r, ML)) := Lib.hid (by
                              rw [HSA.out.1 ht.1]
                              refine better_take ?_
                              rcases ht.2 with h | h
                              · left
                                have := HB.out.found
                                rw [h] at this
                                cases b with
                                | none => rfl
                                | some c => cases this
                              · cases b with
                                | none => exact .inl rfl
                                | some c => exact .inr ⟨c, rfl, by rw [HQ0.out, HB.out.is c rfl]; exact (by rw [HNB.out]; exact h)⟩)
                            have x0 := HX.out.c0
                            have x1 := HX.out.c1
                            have x2 := HX.out.c2
                            have r0 := HBBE.out.box.c0
                            have r1 := HBBE.out.box.c1
                            have r2 := HBBE.out.box.c2
                            have q0 := HBBE.out.box.f0
                            have q1 := HBBE.out.box.f1
                            have q2 := HBBE.out.box.f2
                            clear ht
                            go_upto_region 27 with fail
                            have nz : zE ≠ zS := by have h1 := HZr.out; have h2 := HZOS.out; omega
                            have S0 : Hid (wE.cell? ⟨zS, 0, none⟩ = some (.int .i64 A) ∧ wE.cell? ⟨zS, 1, none⟩ = some (.int .i64 r) ∧ wE.cell? ⟨zS, 2, none⟩ = some (.slice ov q cv)) := Lib.hid ⟨x0, x1, x2⟩
                            have S1 : Hid (∀ c0 c1 c2, (((wE.setCell ⟨zE, 0, none⟩ c0).setCell ⟨zE, 1, none⟩ c1).setCell ⟨zE, 2, none⟩ c2).cell? ⟨zS, 0, none⟩ = some (.int .i64 A) ∧ (((wE.setCell ⟨zE, 0, none⟩ c0).setCell ⟨zE, 1, none⟩ c1).setCell ⟨zE, 2, none⟩ c2).cell? ⟨zS, 1, none⟩ = some (.int .i64 r) ∧ (((wE.setCell ⟨zE, 0, none⟩ c0).setCell ⟨zE, 1, none⟩ c1).setCell ⟨zE, 2, none⟩ c2).cell? ⟨zS, 2, none⟩ = some (.slice ov q cv)) := Lib.hid fun c0 c1 c2 =>
                              have k : ∀ j, (((wE.setCell ⟨zE, 0, none⟩ c0).setCell ⟨zE, 1, none⟩ c1).setCell ⟨zE, 2, none⟩ c2).cell? ⟨zS, j, none⟩ = wE.cell? ⟨zS, j, none⟩ := fun j => (World.cell?_setCell_far _ ⟨zE, 2, none⟩ ⟨zS, j, none⟩ _ nz).trans ((World.cell?_setCell_far _ ⟨zE, 1, none⟩ ⟨zS, j, none⟩ _ nz).trans (World.cell?_setCell_far _ ⟨zE, 0, none⟩ ⟨zS, j, none⟩ _ nz))
                              ⟨(k 0).trans x0, (k 1).trans x1, (k 2).trans x2⟩
                            go_region_held3 (fun w' => w'.cell? ⟨zS, 0, none⟩ = some (.int .i64 A) ∧ w'.cell? ⟨zS, 1, none⟩ = some (.int .i64 r) ∧ w'.cell? ⟨zS, 2, none⟩ = some (.slice ov q cv)) (first | with_reducible exact S0.out | with_reducible exact S1.out _ _ _ | (simp only [World.cell?_drew]; first | with_reducible exact S0.out | with_reducible exact S1.out _ _ _)) (fail)
                            clear x0 x1 x2 r0 r1 r2 q0 q1 q2 f1 f3
                            have HNB6 : Hid (BestB (((wE.setCell ⟨zE, 0, none⟩ (.int .i64 A)).setCell ⟨zE, 1, none⟩ (.int .i64 r)).setCell ⟨zE, 2, none⟩ (.slice ov q cv)) zE wD.heap.size (some (A, r, ML)) true A r (.slice ov q cv) ML) := Lib.hid
                              ⟨HBBE.out.box.put A r _, IntL.far (IntL.far (IntL.far HVE.out (p := ⟨zE, 0, none⟩) HSD.out _) (p := ⟨zE, 1, none⟩) HSD.out _) (p := ⟨zE, 2, none⟩) HSD.out _, (by rw [HQ0.out]; omega), (fun c h => (Option.some.inj h).symm), rfl⟩
                            have hb6 : Below zE wE (((wE.setCell ⟨zE, 0, none⟩ (.int .i64 A)).setCell ⟨zE, 1, none⟩ (.int .i64 r)).setCell ⟨zE, 2, none⟩ (.slice ov q cv)) := below_put3 (Below.refl _ _) (Nat.le_refl _) _ _ _
                            obtain ⟨w6, hw6⟩ : ∃ W, ((wE.setCell ⟨zE, 0, none⟩ (.int .i64 A)).setCell ⟨zE, 1, none⟩ (.int .i64 r)).setCell ⟨zE, 2, none⟩ (.slice ov q cv) = W := ⟨_, rfl⟩
                            rw [hw6] at HNB6 hb6 ⊢
                            have h6z : zE < w6.heap.size := Nat.lt_of_lt_of_le HZE2.out hb6.size
                            clear hw6
                            obtain ⟨wF, hwF⟩ : ∃ W, w6.drew = W := ⟨_, rfl⟩
                            have HNBB : Hid (BestB wF zE wD.heap.size (some (A, r, ML)) true A r (.slice ov q cv) ML) := Lib.hid (by rw [← hwF]; exact HNB6.out.call (below_drew (Below.refl _ _)) h6z)
                            have hbF : Below zE wE wF := by rw [← hwF]; exact below_drew hb6
                            have HBW := Lib.hid (HCE.out.trans (hbF.mono HZE.out))
                            have HZW : Hid (zE < wF.heap.size) := Lib.hid (Nat.lt_of_lt_of_le HZE2.out hbF.size)
                            have HSW : Hid (wD.heap.size ≤ wF.heap.size) := Lib.hid (Nat.le_trans HSE2.out hbF.size)
                            rw [hwF]
                            clear hbF hwF hb6 h6z HNB6 S0 S1
                            obtain ⟨-, f1, -, f3, -⟩ := HC.out wF HBW.out
                            go_upto_region 7 with fail
                            by_cases hmore : st ≤ tt - A
                            · have HN := Lib.hid (HFA.out.trans (HNEXT.out A b _ hend hmore))
                              have e2 : IntKind.i64.wrap (A + st) = A + st := IntWalk.i64_in _ (by omega)
                              have e3 : IntKind.i64.wrap (tt - A) = tt - A := IntWalk.i64_in _ (by omega)
                              have HM2 : Hid (fr ≤ A + st ∧ A + st ≤ tt ∧ FS = FF ((tt - (A + st)).toNat + 1) (A + st) (some (A, r, ML))) := Lib.hid ⟨by omega, by omega, by rw [HN.out, HNB2.out]; exact HFUEL.out _ _ _ _ (by omega) (by omega)⟩
                              go_quiet (fail)
                              have HBq := Lib.hid (belowN (Below.refl wF.heap.size wF) nq)
                              clear e2 e3 f1 f3
                              go_roundw
                              case rel => (repeat apply Exists.intro); exact ⟨⟨A + st, true, true, (some (A, r, ML)), A, r, .slice ov q cv, ML, rfl, rfl, rfl, Lib.hid (HNBB.out.call HBq.out HZW.out), Lib.hid (fun _ => HM2.out), Lib.hid (fun h => by cases h), Lib.hid (HBW.out.trans (HBq.out.mono HBW.out.size)), Lib.hid (Nat.le_trans HSW.out HBq.out.size)⟩, rfl⟩
                              case measure => simp [mFnd, intOf]; omega
                            · have HN := Lib.hid (HFA.out.trans (HLAST.out A b _ hend (by omega)))
                              have e3 : IntKind.i64.wrap (tt - A) = tt - A := IntWalk.i64_in _ (by omega)
                              have d3 : decide (st ≤ tt - A) = false := decide_eq_false hmore
                              have HM2 : Hid (FS = (some (A, r, ML))) := Lib.hid (HN.out.trans HNB2.out)
                              go_quiet (fail)
                              have HBq := Lib.hid (belowN (Below.refl wF.heap.size wF) nq)
                              clear e3 d3 f1 f3
                              go_roundw
                              case rel => (repeat apply Exists.intro); exact ⟨⟨_, false, true, (some (A, r, ML)), A, r, .slice ov q cv, ML, rfl, rfl, rfl, Lib.hid (HNBB.out.call HBq.out HZW.out), Lib.hid (fun h => by cases h), Lib.hid (fun _ => HM2.out), Lib.hid (HBW.out.trans (HBq.out.mono HBW.out.size)), Lib.hid (Nat.le_trans HSW.out HBq.out.size)⟩, rfl⟩
                              case measure => simp [mFnd, intOf]
                          | false =>
                            have HNB2 : Hid (better b A (SR A) = b) := Lib.hid (by
                              have ht := of_decide_eq_false HTB.out
                              by_cases hq : Y = true ∧ (se = 0 ∨ 0 ≤ r)
                              · rw [HSA.out.1 hq]
                                have hfd := HB.out.found
                                cases b with
                                | none => rw [hfd] at ht; exact absurd ⟨hq, .inl rfl⟩ ht
                                | some c =>
                                  refine better_keep ?_
                                  rw [HQ0.out, HB.out.is c rfl]
                                  show ¬ q < bm.length
                                  rw [HNB.out]
                                  exact fun h => ht ⟨hq, .inr h⟩
                              · rw [HSA.out.2 hq]; rfl)
                            have HNBB := HBBE
                            have HBW := HCE
                            have HZW := HZE2
                            have HSW := HSE2
                            go_upto_region 7 with fail
                            by_cases hmore : st ≤ tt - A
                            · have HN := Lib.hid (HFA.out.trans (HNEXT.out A b _ hend hmore))
                              have e2 : IntKind.i64.wrap (A + st) = A + st := IntWalk.i64_in _ (by omega)
                              have e3 : IntKind.i64.wrap (tt - A) = tt - A := IntWalk.i64_in _ (by omega)
                              have HM2 : Hid (fr ≤ A + st ∧ A + st ≤ tt ∧ FS = FF ((tt - (A + st)).toNat + 1) (A + st) b) := Lib.hid ⟨by omega, by omega, by rw [HN.out, HNB2.out]; exact HFUEL.out _ _ _ _ (by omega) (by omega)⟩
                              go_quiet (fail)
                              have HBq := Lib.hid (belowN (Below.refl wE.heap.size wE) nq)
                              clear e2 e3 f1 f3
                              go_roundw
                              case rel => (repeat apply Exists.intro); exact ⟨⟨A + st, true, F, b, bx, br, .slice ob nb cb, bm, rfl, rfl, rfl, Lib.hid (HNBB.out.call HBq.out HZW.out), Lib.hid (fun _ => HM2.out), Lib.hid (fun h => by cases h), Lib.hid (HBW.out.trans (HBq.out.mono HBW.out.size)), Lib.hid (Nat.le_trans HSW.out HBq.out.size)⟩, rfl⟩
                              case measure => simp [mFnd, intOf]; omega
                            · have HN := Lib.hid (HFA.out.trans (HLAST.out A b _ hend (by omega)))
                              have e3 : IntKind.i64.wrap (tt - A) = tt - A := IntWalk.i64_in _ (by omega)
                              have d3 : decide (st ≤ tt - A) = false := decide_eq_false hmore
                              have HM2 : Hid (FS = b) := Lib.hid (HN.out.trans HNB2.out)
                              go_quiet (fail)
                              have HBq := Lib.hid (belowN (Below.refl wE.heap.size wE) nq)
                              clear e3 d3 f1 f3
                              go_roundw
                              case rel => (repeat apply Exists.intro); exact ⟨⟨_, false, F, b, bx, br, .slice ob nb cb, bm, rfl, rfl, rfl, Lib.hid (HNBB.out.call HBq.out HZW.out), Lib.hid (fun h => by cases h), Lib.hid (fun _ => HM2.out), Lib.hid (HBW.out.trans (HBq.out.mono HBW.out.size)), Lib.hid (Nat.le_trans HSW.out HBq.out.size)⟩, rfl⟩
                              case measure => simp [mFnd, intOf]
        · have HFb : Hid (FS = b) := Lib.hid (HFA.out.trans (HEND.out A b _ (by omega)))
          have HWr := Lib.hid (thenB HBC.out HBk.out)
          have HR2 := Lib.hid (HR1.out wr HBk.out)
          have r0 := HR2.out.c0
          have r1 := HR2.out.c1
          have r2 := HR2.out.c2
          have q0 := HR2.out.f0
          have q1 := HR2.out.f1
          have q2 := HR2.out.f2
          cases F with
          | false =>
            have hb0 : b = none := by
              have := HB.out.found
              cases b
              · rfl
              · cases this
            have HRES := Lib.hid (HFN.out (HFb.out.trans hb0))
            clear hb0
            go_wp2_with fail
            have HG := HR2.out.put 0 0 (.slice none 0 0)
            refine bodyPost_ret (v := .tuple #[.agg #[.int .i64 0, .int .i64 0, .slice none 0 0], .int .i64 12]) (by simp [results, Tryd.results8, go_sem, HG.c0, HG.c1, HG.c2]) rfl ?_
            unfold FndPost
            rw [HRES.out.1, HRES.out.2]
            exact ⟨.slice none 0 0, rfl, IntL.nil _ _, below_put3 HWr.out HZZ.out _ _ _⟩
          | true =>
            obtain ⟨c, hc⟩ : ∃ c, b = some c := by
              have := HB.out.found
              cases b with
              | none => cases this
              | some c => exact ⟨c, rfl⟩
            have hc2 := HB.out.is c hc
            subst hc2
            have HRES := Lib.hid (HFS.out _ (HFb.out.trans hc))
            have x0 := HB.out.box.c0
            have x1 := HB.out.box.c1
            have x2 := HB.out.box.c2
            have HROW := Lib.hid HB.out.row
            have hzd : zB < wD.heap.size := by have h1 := HZB.out; have h2 := HSC.out; have h3 := HZE.out; have h4 := HSD.out; omega
            have hwz : w.heap.size ≤ wD.heap.size := by have h1 := HZZ.out; omega
            clear hc
            go_wp2_with fail
            have HG := HR2.out.put bx br (.slice ob nb cb)
            refine bodyPost_ret (v := .tuple #[.agg #[.int .i64 bx, .int .i64 br, .slice ob nb cb], .int .i64 0]) (by simp [results, Tryd.results8, go_sem, HG.c0, HG.c1, HG.c2]) rfl ?_
            unfold FndPost
            rw [HRES.out.1, HRES.out.2]
            exact ⟨.slice ob nb cb, rfl, IntL.low (IntL.far (IntL.far (IntL.far HROW.out (p := ⟨zB, 0, none⟩) hzd _) (p := ⟨zB, 1, none⟩) hzd _) (p := ⟨zB, 2, none⟩) hzd _) hwz, below_put3 HWr.out HZZ.out _ _ _⟩
  · have HF := Lib.hid (fnd_bad (W := W) (P := P) (R := R) (by rw [HNP.out]; exact hE))
    rw [HNP.out] at HF
    obtain ⟨E, hEE⟩ : ∃ E, wChk W np = E := ⟨_, rfl⟩
    rw [hEE] at C1 HF hE
    clear hEE
    have bE : (E == 0) = false := by simpa using hE
    go_wp2_with (go_at_call 10; refine (C1.out _ (Below.refl _ _)).mono ?_; rintro e w2 ⟨rfl, hb2⟩; have HB2 := Lib.hid hb2; have hr2 := HR1.out w2 hb2; have HR2 := Lib.hid hr2; have r0 := hr2.c0; have r1 := hr2.c1; have r2 := hr2.c2; have q0 := hr2.f0; have q1 := hr2.f1; have q2 := hr2.f2; clear hb2 hr2)
    have HG := HR2.out.put 0 0 (.slice none 0 0)
    refine bodyPost_ret (v := .tuple #[.agg #[.int .i64 0, .int .i64 0, .slice none 0 0], .int .i64 E]) (by simp [results, Tryd.results8, go_sem, HG.c0, HG.c1, HG.c2]) rfl ?_
    unfold FndPost
    rw [HF.out.1, HF.out.2]
    exact ⟨.slice none 0 0, rfl, IntL.nil _ _, below_put3 (thenB HBC.out HB2.out) HZZ.out _ _ _⟩
end Go.Proofs.YtbmndenopgkpoaaDoor
