/- busy.Find. -/
import Derived.Test.YtbmndenopgkpoaaDoorBsyE
namespace Go.Proofs.YtbmndenopgkpoaaDoor
open Go.RowKit Wrk Go.Shelf
/-- The best so far, in its box. -/
structure BestB (w : World) (Z base : Nat) (b : Option Sl) (F : Bool) (x r : Int) (v : Value) (m : List Int) : Prop where
  box : SlBx w Z x r v
  row : IntL w base v m
  len : m.length ≤ 10000000
  is : ∀ c, b = some c → c = (x, r, m)
  found : F = b.isSome
theorem BestB.call {w w' : World} {Z base : Nat} {b : Option Sl} {F : Bool} {x r : Int} {v : Value} {m : List Int} (h : BestB w Z base b F x r v m) (hb : Below w.heap.size w w') (hZ : Z < w.heap.size) : BestB w' Z base b F x r v m :=
  ⟨h.box.call hb hZ, h.row.call hb, h.len, h.is, h.found⟩
def mFnd (tt : Int) (a c : Value) : Nat := match c with | .bool true => (tt - intOf a).toNat + 1 | _ => 0
theorem wChk_ok {W : Wnt} {n : Int} (h : wChk W n = 0) : 1 ≤ W.len ∧ W.len ≤ 34560000 ∧ 1 ≤ W.step ∧ 0 ≤ W.seats ∧ W.frm ≤ W.to ∧ -345600086399 ≤ W.frm ∧ W.to ≤ 345600086399 ∧ ∀ x, x ∈ W.must ++ W.should → 0 ≤ x ∧ x < n := by
  unfold wChk at h
  split at h
  · cases h
  · rename_i g1
    split at h
    · cases h
    · rename_i g2
      split at h
      · cases h
      · split at h
        · rename_i g3
          unfold whoB at g3
          have g4 := (of_decide_eq_true g3).2
          exact ⟨by omega, by omega, by omega, by omega, by omega, by omega, by omega, g4⟩
        · cases h
theorem better_take {b : Option Sl} {a r : Int} {m : List Int} (h : b = none ∨ ∃ c, b = some c ∧ m.length < c.2.2.length) : better b a (some (r, m)) = some (a, r, m) := by
  rcases h with rfl | ⟨c, rfl, h⟩
  · rfl
  · show (if m.length < c.2.2.length then some (a, r, m) else some c) = _
    rw [if_pos h]
theorem better_keep {c : Sl} {a r : Int} {m : List Int} (h : ¬ m.length < c.2.2.length) : better (some c) a (some (r, m)) = some c := if_neg h
theorem findS_fuel {W : Wnt} {P : List (List Iv)} {R : List Rm} (hst : 1 ≤ W.step) : ∀ (f g : Nat) (a : Int) (b : Option Sl), (W.to - a).toNat < f → (W.to - a).toNat < g → findS W P R f a b = findS W P R g a b
  | 0, _, _, _, h, _ => absurd h (by omega)
  | _ + 1, 0, _, _, _, h => absurd h (by omega)
  | f + 1, g + 1, a, b, h1, h2 => by
    unfold findS
    split
    · split
      · exact findS_fuel hst f g _ _ (by omega) (by omega)
      · rfl
    · rfl
def FndPost (W : Wnt) (P : List (List Iv)) (R : List Rm) (er : Int → Value) (w : World) (e : Ending) (w' : World) : Prop :=
  ∃ (v : Value), e = .returned (.tuple #[.agg #[.int .i64 (fndS W P R).1, .int .i64 (fndS W P R).2.1, v], er (fndE W P R)]) ∧ IntL w' w.heap.size v (fndS W P R).2.2 ∧ Below w.heap.size w w'
theorem fnd_bad {W : Wnt} {P : List (List Iv)} {R : List Rm} (h : wChk W P.length ≠ 0) : fndE W P R = wChk W P.length ∧ fndS W P R = (0, 0, []) := ⟨if_pos h, if_pos h⟩
theorem fnd_none {W : Wnt} {P : List (List Iv)} {R : List Rm} (h : wChk W P.length = 0) (h2 : findS W P R (fuelW W) W.frm none = none) : fndE W P R = 12 ∧ fndS W P R = (0, 0, []) := by
  unfold fndE fndS
  rw [if_neg (fun e : wChk W P.length ≠ 0 => e h), if_neg (fun e : wChk W P.length ≠ 0 => e h), if_pos h2, h2]
  exact ⟨rfl, rfl⟩
theorem fnd_some {W : Wnt} {P : List (List Iv)} {R : List Rm} {c : Sl} (h : wChk W P.length = 0) (h2 : findS W P R (fuelW W) W.frm none = some c) : fndE W P R = 0 ∧ fndS W P R = c := by
  unfold fndE fndS
  rw [if_neg (fun e : wChk W P.length ≠ 0 => e h), if_neg (fun e : wChk W P.length ≠ 0 => e h), if_neg (by rw [h2]; simp), h2]
  exact ⟨rfl, rfl⟩
set_option maxRecDepth 100000 in
set_option maxHeartbeats 16000000 in
theorem find_any (W : Wnt) (vm vs vp vr : Value) (P : List (List Iv)) (R : List Rm) (w : World) (hm : IntC w vm W.must) (hs : IntC w vs W.should) (hP : SetsS w vp P) (hR : RoomsS w vr R)
    (lP : ∀ l, l ∈ P → l.length ≤ 1000000) (lR : ∀ r, r ∈ R → r.2.length ≤ 1000000) (nR : R.length ≤ 1000000) (nM : W.must.length ≤ 2000000) (nS : W.should.length ≤ 2000000) (iSt : InI W.step) :
    Calls Tryd.prog 18 #[wantV W vm vs, vp, vr] w (FndPost W P R errV w) := by
  obtain ⟨om, cm, rfl⟩ := hm.form
  obtain ⟨os, cs, rfl⟩ := hs.form
  obtain ⟨op, cp, rfl⟩ := hP.form
  obtain ⟨or, cr, rfl⟩ := hR.form
  obtain ⟨wB, hwB, ⟨hb0, hlt⟩, f0, f1, f2, f3, f4, f5, f6⟩ := want_cells W (.slice om W.must.length cm) (.slice os W.should.length cs) w
  have HB0 := Lib.hid hb0
  have HLT := Lib.hid hlt
  obtain ⟨wC, hwC⟩ : ∃ wC, wB.alloc (.cells #[.int .i64 0, .int .i64 0, .slice none 0 0] 45) = wC := ⟨_, rfl⟩
  have hbC : Below wB.heap.size wB wC := by rw [← hwC]; exact (Below.refl _ _).alloc (Nat.le_refl _) _
  have hsC : wB.heap.size < wC.heap.size := by rw [← hwC]; simp
  have HR0 : Hid (SlBx wC wB.heap.size 0 0 (.slice none 0 0)) := Lib.hid (by rw [← hwC]; exact SlBx.new _ _ _ _)
  have HSC := Lib.hid hsC
  have HBC := Lib.hid (thenB hb0 hbC)
  obtain ⟨zB, hzB⟩ : ∃ z, wB.heap.size = z := ⟨_, rfl⟩
  have HZB := Lib.hid hzB
  obtain ⟨nm, hnm⟩ : ∃ x, W.must.length = x := ⟨_, rfl⟩
  obtain ⟨ns, hns⟩ : ∃ x, W.should.length = x := ⟨_, rfl⟩
  obtain ⟨np, hnp⟩ : ∃ x, P.length = x := ⟨_, rfl⟩
  obtain ⟨nr, hnr⟩ : ∃ x, R.length = x := ⟨_, rfl⟩
  have HC : Hid (∀ w', Below wC.heap.size wC w' → w'.cell? ⟨w.heap.size, 0, none⟩ = some (.int .i64 W.len) ∧ w'.cell? ⟨w.heap.size, 1, none⟩ = some (.int .i64 W.step) ∧ w'.cell? ⟨w.heap.size, 2, none⟩ = some (.int .i64 W.frm) ∧ w'.cell? ⟨w.heap.size, 3, none⟩ = some (.int .i64 W.to) ∧ w'.cell? ⟨w.heap.size, 4, none⟩ = some (.slice om nm cm) ∧ w'.cell? ⟨w.heap.size, 5, none⟩ = some (.slice os ns cs) ∧ w'.cell? ⟨w.heap.size, 6, none⟩ = some (.int .i64 W.seats)) := Lib.hid fun w' hb => by
    have hz : w.heap.size < wC.heap.size := Nat.lt_trans hlt hsC
    have k : ∀ j, w'.cell? ⟨w.heap.size, j, none⟩ = wB.cell? ⟨w.heap.size, j, none⟩ := fun j => (hb.cell (p := ⟨w.heap.size, j, none⟩) hz).trans (hbC.cell (p := ⟨w.heap.size, j, none⟩) hlt)
    rw [hnm] at f4
    rw [hns] at f5
    exact ⟨(k 0).trans f0, (k 1).trans f1, (k 2).trans f2, (k 3).trans f3, (k 4).trans f4, (k 5).trans f5, (k 6).trans f6⟩
  have HM := Lib.hid ((hm.call hb0).call hbC)
  have HS := Lib.hid ((hs.call hb0).call hbC)
  have HP := Lib.hid ((hP.call hb0).call hbC)
  have HR := Lib.hid ((hR.call hb0).call hbC)
  have C1 := Lib.hid (fun w0 (hb : Below wC.heap.size wC w0) => check_any W _ _ P.length w0 (HM.out.call hb) (HS.out.call hb) (by omega))
  rw [hnm, hns, hnp] at C1
  have HNM := Lib.hid nM
  have HNS := Lib.hid nS
  have HNR := Lib.hid nR
  have HLP := Lib.hid lP
  have HLR := Lib.hid lR
  have HNP := Lib.hid hnp
  have HLM := Lib.hid (And.intro hnm (And.intro hns hnr))
  have HWC := Lib.hid (fun h => wChk_ok (W := W) (n := np) h)
  rw [hnm, hns] at hwB ⊢
  rw [hnp, hnr]
  rw [hzB] at HR0
  have HST := Lib.hid iSt
  unfold wantV at C1
  unfold wantV
  clear hm hs hP hR hb0 hlt hbC hsC nM nS nR lP lR hnm hns hnp hnr f0 f1 f2 f3 f4 f5 f6 iSt
  go_enter Tryd.func18, Tryd.ntmps18
  go_upto_region 1 with fail
  try simp only [hzB, hwC]
  clear hwB hwC hzB
  obtain ⟨f0, f1, f2, f3, f4, f5, f6⟩ := HC.out wC (Below.refl _ _)
  have HR1 : Hid (∀ w', Below wC.heap.size wC w' → SlBx w' zB 0 0 (.slice none 0 0)) := Lib.hid fun w' hb => HR0.out.call hb (by have := HSC.out; have := HZB.out; omega)
  have hzz : w.heap.size ≤ zB := by have := HZB.out; have := HB0.out.size; omega
  have HZZ := Lib.hid hzz
  clear hzz
  by_cases hE : wChk W np = 0
  · have hW := HWC.out hE
    rw [hE, errV_nil] at C1
    obtain ⟨l1, l2, st1, s1, ft, fr1, tt1, who⟩ := hW
    have HFS := Lib.hid (fun h => fnd_some (W := W) (P := P) (R := R) (c := h) (by rw [HNP.out]; exact hE))
    have HFN := Lib.hid (fnd_none (W := W) (P := P) (R := R) (by rw [HNP.out]; exact hE))
    have CSL := Lib.hid (fun (A : Int) w0 (hb : Below wC.heap.size wC w0) (a1 : W.frm ≤ A) (a2 : A ≤ W.to) => slot_any W _ _ _ _ P R A w0 (HM.out.call hb) (HS.out.call hb) (HP.out.call hb) (HR.out.call hb) HLP.out HLR.out HNR.out (by have := HNM.out; omega) (by have := HNS.out; omega) (by rw [HNP.out]; exact who) (by omega) (by omega) l1 l2 s1)
    rw [HLM.out.1, HLM.out.2.1, HLM.out.2.2, HNP.out] at CSL
    unfold wantV SlotPost at CSL
    have HFIN : Hid (findS W P R (fuelW W) W.frm none = findS W P R ((W.to - W.frm).toNat + 1) W.frm none) := Lib.hid rfl
    obtain ⟨FS, hFS⟩ : ∃ x, findS W P R (fuelW W) W.frm none = x := ⟨_, rfl⟩
    rw [hFS] at HFS HFN HFIN
    have HEND := Lib.hid (fun (A : Int) (b : Option Sl) (f : Nat) h => findS_end (W := W) (P := P) (R := R) (a := A) (b := b) f h)
    have HLAST := Lib.hid (fun (A : Int) (b : Option Sl) (f : Nat) h h2 => findS_last (W := W) (P := P) (R := R) (a := A) (b := b) (f := f) h h2)
    have HNEXT := Lib.hid (fun (A : Int) (b : Option Sl) (f : Nat) h h2 => findS_next (W := W) (P := P) (R := R) (a := A) (b := b) (f := f) h h2)
    have HFUEL := Lib.hid (fun f g A b h1 h2 => findS_fuel (W := W) (P := P) (R := R) st1 f g A b h1 h2)
    obtain ⟨FF, hFF⟩ : ∃ F, findS W P R = F := ⟨_, rfl⟩
    simp only [hFF] at HFIN HEND HLAST HNEXT HFUEL
    obtain ⟨SR, hSR⟩ : ∃ S, slotR W P R = S := ⟨_, rfl⟩
    simp only [hSR] at CSL HLAST HNEXT
    obtain ⟨ln, hln⟩ : ∃ x, W.len = x := ⟨_, rfl⟩
    obtain ⟨st, hst⟩ : ∃ x, W.step = x := ⟨_, rfl⟩
    obtain ⟨fr, hfr⟩ : ∃ x, W.frm = x := ⟨_, rfl⟩
    obtain ⟨tt, htt⟩ : ∃ x, W.to = x := ⟨_, rfl⟩
    obtain ⟨se, hse⟩ : ∃ x, W.seats = x := ⟨_, rfl⟩
    simp only [hln, hst, hfr, htt, hse] at C1 CSL HFIN HEND HLAST HNEXT HFUEL HC l1 l2 st1 s1 ft fr1 tt1 f0 f1 f2 f3 f6 HST ⊢
    clear hFS hFF hSR hln hst hfr htt hse who hE HM HS HP HR HWC
    go_upto_region 4 with (go_at_call 22; refine (C1.out _ (Below.refl _ _)).mono ?_; rintro e w2 ⟨rfl, hb2⟩; have HB2 := Lib.hid hb2; clear hb2)
    clear f0 f1 f2 f3 f4 f5 f6
    go_upto_region 5 with fail
    obtain ⟨wD, hwD⟩ : ∃ wD, w2.alloc (.cells #[.int .i64 0, .int .i64 0, .slice none 0 0] 45) = wD := ⟨_, rfl⟩
    have hbD : Below w2.heap.size w2 wD := by rw [← hwD]; exact (Below.refl _ _).alloc (Nat.le_refl _) _
    have hsD : w2.heap.size < wD.heap.size := by rw [← hwD]; simp
    have HX0 : Hid (SlBx wD w2.heap.size 0 0 (.slice none 0 0)) := Lib.hid (by rw [← hwD]; exact SlBx.new _ _ _ _)
    obtain ⟨zE, hzE⟩ : ∃ z, w2.heap.size = z := ⟨_, rfl⟩
    have HZE : Hid (wC.heap.size ≤ zE) := Lib.hid (by rw [← hzE]; exact HB2.out.size)
    have HBD := Lib.hid (HB2.out.trans (hbD.mono HB2.out.size))
    rw [hzE] at HX0 hsD
    have HSD := Lib.hid hsD
    try simp only [hzE, hwD]
    clear hbD hsD hwD hzE
    obtain ⟨-, -, f2, -⟩ := HC.out wD HBD.out
    go_upto_region 6 with fail
    clear f2
    go_loopw [11, 12, 10] (fun x y z wr => ∃ (A : Int) (M F : Bool) (b : Option Sl) (bx br : Int) (bv : Value) (bm : List Int), x = .int .i64 A ∧ y = .bool M ∧ z = .bool F ∧ Hid (BestB wr zE wD.heap.size b F bx br bv bm) ∧ Hid (M = true → fr ≤ A ∧ A ≤ tt ∧ FS = FF ((tt - A).toNat + 1) A b) ∧ Hid (M = false → FS = b) ∧ Hid (Below wC.heap.size wC wr) ∧ Hid (wD.heap.size ≤ wr.heap.size)) (fun x y _ _ => mFnd tt x y)
    case atStart => exact ⟨fr, true, false, none, 0, 0, .slice none 0 0, [], rfl, rfl, rfl, Lib.hid ⟨HX0.out, IntL.nil _ _, by simp, (fun c h => by cases h), rfl⟩, Lib.hid (fun _ => ⟨Int.le_refl _, ft, HFIN.out⟩), Lib.hid (fun h => by cases h), HBD, Lib.hid (Nat.le_refl _)⟩
    case round =>
      obtain ⟨A, M, F, b, bx, br, bv, bm, rfl, rfl, rfl, HB, HT, HF, HBk, HSk⟩ := hrel
      obtain ⟨ob, cb, rfl⟩ := HB.out.row.form
      have HBL := Lib.hid HB.out.len
      obtain ⟨nb, hnb⟩ : ∃ n, bm.length = n := ⟨_, rfl⟩
      have HNB := Lib.hid hnb
      rw [hnb] at HB
      clear hnb
      cases M with
      | false =>
        have HFb := Lib.hid (HF.out rfl)
        have HWr := Lib.hid (thenB HBC.out HBk.out)
        have HR2 := Lib.hid (HR1.out wr HBk.out)
        have r0 := HR2.out.c0
        have r1 := HR2.out.c1
        have r2 := HR2.out.c2
        have q0 := HR2.out.f0
        have q1 := HR2.out.f1
        have q2 := HR2.out.f2
        cases F with
        | false =>
          have hb0 : b = none := by
            have := HB.out.found
            cases b
            · rfl
            · cases this
          have HRES := Lib.hid (HFN.out (HFb.out.trans hb0))
          clear hb0
          go_wp2_with fail
          have HG := HR2.out.put 0 0 (.slice none 0 0)
          refine bodyPost_ret (v := .tuple #[.agg #[.int .i64 0, .int .i64 0, .slice none 0 0], .iface 46 (.int .i64 12)]) (by simp [results, Tryd.results18, go_sem, HG.c0, HG.c1, HG.c2]) rfl ?_
          unfold FndPost
          rw [HRES.out.1, HRES.out.2]
          exact ⟨.slice none 0 0, rfl, IntL.nil _ _, below_put3 HWr.out HZZ.out _ _ _⟩
        | true =>
          obtain ⟨c, hc⟩ : ∃ c, b = some c := by
            have := HB.out.found
            cases b with
            | none => cases this
            | some c => exact ⟨c, rfl⟩
          have hc2 := HB.out.is c hc
          subst hc2
          have HRES := Lib.hid (HFS.out _ (HFb.out.trans hc))
          have x0 := HB.out.box.c0
          have x1 := HB.out.box.c1
          have x2 := HB.out.box.c2
          have HROW := Lib.hid HB.out.row
          have hzd : zB < wD.heap.size := by have h1 := HZB.out; have h2 := HSC.out; have h3 := HZE.out; have h4 := HSD.out; omega
          have hwz : w.heap.size ≤ wD.heap.size := by have h1 := HZZ.out; omega
          clear hc
          go_wp2_with fail
          have HG := HR2.out.put bx br (.slice ob nb cb)
          refine bodyPost_ret (v := .tuple #[.agg #[.int .i64 bx, .int .i64 br, .slice ob nb cb], .nilIface]) (by simp [results, Tryd.results18, go_sem, HG.c0, HG.c1, HG.c2]) rfl ?_
          unfold FndPost
          rw [HRES.out.1, HRES.out.2]
          exact ⟨.slice ob nb cb, rfl, IntL.low (IntL.far (IntL.far (IntL.far HROW.out (p := ⟨zB, 0, none⟩) hzd _) (p := ⟨zB, 1, none⟩) hzd _) (p := ⟨zB, 2, none⟩) hzd _) hwz, below_put3 HWr.out HZZ.out _ _ _⟩
      | true =>
        obtain ⟨A1, A2, hFA⟩ := HT.out rfl
        have HFA := Lib.hid hFA
        clear hFA
        obtain ⟨f0, f1, f2, f3, f4, f5, f6⟩ := HC.out wr HBk.out
        have e1 : wrap64 (A + ln) = A + ln := wrap_in (InI.mk (by omega) (by omega))
        by_cases hend : A + ln ≤ tt
        · have HZr : Hid (zE < wr.heap.size) := Lib.hid (Nat.lt_of_lt_of_le HSD.out HSk.out)
          go_upto_region 9 with (go_at_call 30; refine (CSL.out A _ HBk.out A1 A2).mono ?_; rintro e w5 ⟨sx, sr, sv, sm, q, rfl, hv5, hl5, hq1, hq0, hb5⟩; obtain ⟨o5, c5, rfl⟩ := hv5.form; have HV5 := Lib.hid hv5; have HL5 := Lib.hid hl5; have HQ1 := Lib.hid hq1; have HQ0 := Lib.hid hq0; have HB5 := Lib.hid hb5; obtain ⟨n5, hn5⟩ : ∃ n, sm.length = n := ⟨_, rfl⟩; have HN5 := Lib.hid hn5; rw [hn5] at HV5 ⊢; clear hv5 hl5 hq1 hq0 hb5 hn5)
          obtain ⟨wE, hwE⟩ : ∃ W, w5.alloc (.cells #[.int .i64 sx, .int .i64 sr, .slice o5 n5 c5] 45) = W := ⟨_, rfl⟩
          obtain ⟨zS, hzS⟩ : ∃ z, w5.heap.size = z := ⟨_, rfl⟩
          have hbE : Below w5.heap.size w5 wE := by rw [← hwE]; exact (Below.refl _ _).alloc (Nat.le_refl _) _
          have hsE : w5.heap.size < wE.heap.size := by rw [← hwE]; simp
          have HX5 : Hid (SlBx wE zS sx sr (.slice o5 n5 c5)) := Lib.hid (by rw [← hwE, ← hzS]; exact SlBx.new _ _ _ _)
          have HBE := Lib.hid ((HB5.out.trans (hbE.mono HB5.out.size)))
          have HVE := Lib.hid (IntL.low (HV5.out.call hbE) HSk.out)
          have HBBE := Lib.hid (HB.out.call HBE.out HZr.out)
          have HCE := Lib.hid (HBk.out.trans (HBE.out.mono HBk.out.size))
          have HZE2 : Hid (zE < wE.heap.size) := Lib.hid (Nat.lt_of_lt_of_le HZr.out HBE.out.size)
          have HSE2 : Hid (wD.heap.size ≤ wE.heap.size) := Lib.hid (Nat.le_trans HSk.out HBE.out.size)
          have HZS : Hid (zE < zS ∧ zS < wE.heap.size) := Lib.hid (by rw [← hzS]; exact ⟨Nat.lt_of_lt_of_le HZr.out HB5.out.size, hsE⟩)
          try simp only [hwE, hzS]
          clear hwE hzS hbE hsE f0 f1 f2 f3 f4 f5 f6 e1
          obtain ⟨TB, hTB⟩ : ∃ t : Bool, decide (q = true ∧ (F = false ∨ n5 < nb)) = t := ⟨_, rfl⟩
          have HTB := Lib.hid hTB
          have s2 := HX5.out.c2
          have b2 := HBBE.out.box.c2
          clear hTB
          go_cut [68] from 55 to 67 (fun qv wx => qv = .bool TB ∧ wE = wx)
          case first =>
            cases q with
            | false =>
              have eT : TB = false := by rw [← HTB.out]; simp
              subst eT
              go_wp2_with fail
              go_meet
              exact ⟨rfl, rfl⟩
            | true =>
              cases F with
              | false =>
                have eT : TB = true := by rw [← HTB.out]; simp
                subst eT
                go_wp2_with fail
                go_meet
                exact ⟨rfl, rfl⟩
              | true =>
                have eT : TB = decide (n5 < nb) := by rw [← HTB.out]; simp
                subst eT
                go_wp2_with fail
                go_meet
                exact ⟨bvE (by simp), rfl⟩
          case rest =>
            obtain ⟨rfl, rfl⟩ := hcut
            clear s2 b2
            obtain ⟨-, f1, -, f3, -⟩ := HC.out wE HCE.out
            cases TB with
            | true =>
              have ht := of_decide_eq_true HTB.out
              obtain ⟨hsx, hsr⟩ := HQ1.out ht.1
              have hsx2 := hsx.symm
              clear hsx
              subst hsx2
              have HNB2 : Hid (better b A (SR A) = some (A, sr, sm)) := Lib.hid (by
                rw [hsr]
                refine better_take ?_
                rcases ht.2 with h | h
                · left
                  have := HB.out.found
                  rw [h] at this
                  cases b with
                  | none => rfl
                  | some c => cases this
                · cases b with
                  | none => exact .inl rfl
                  | some c => exact .inr ⟨c, rfl, by rw [HN5.out, HB.out.is c rfl]; exact (by rw [HNB.out]; exact h)⟩)
              have x0 := HX5.out.c0
              have x1 := HX5.out.c1
              have x2 := HX5.out.c2
              have r0 := HBBE.out.box.c0
              have r1 := HBBE.out.box.c1
              have r2 := HBBE.out.box.c2
              have q0 := HBBE.out.box.f0
              have q1 := HBBE.out.box.f1
              have q2 := HBBE.out.box.f2
              clear ht hsr
              go_upto_region 7 with fail
              obtain ⟨wF, hwF⟩ : ∃ W, ((wE.setCell ⟨zE, 0, none⟩ (.int .i64 A)).setCell ⟨zE, 1, none⟩ (.int .i64 sr)).setCell ⟨zE, 2, none⟩ (.slice o5 n5 c5) = W := ⟨_, rfl⟩
              have HNBB : Hid (BestB wF zE wD.heap.size (some (A, sr, sm)) true A sr (.slice o5 n5 c5) sm) := Lib.hid (by
                rw [← hwF]
                exact ⟨HBBE.out.box.put A sr _, IntL.far (IntL.far (IntL.far HVE.out (p := ⟨zE, 0, none⟩) HSD.out _) (p := ⟨zE, 1, none⟩) HSD.out _) (p := ⟨zE, 2, none⟩) HSD.out _, HL5.out, (fun c h => (Option.some.inj h).symm), rfl⟩)
              have hbF : Below zE wE wF := by rw [← hwF]; exact below_put3 (Below.refl _ _) (Nat.le_refl _) _ _ _
              have HBW := Lib.hid (HCE.out.trans (hbF.mono HZE.out))
              have HZW : Hid (zE < wF.heap.size) := Lib.hid (Nat.lt_of_lt_of_le HZE2.out hbF.size)
              have HSW : Hid (wD.heap.size ≤ wF.heap.size) := Lib.hid (Nat.le_trans HSE2.out hbF.size)
              rw [hwF]
              clear hbF hwF x0 x1 x2 r0 r1 r2 q0 q1 q2 f1 f3
              obtain ⟨-, f1, -, f3, -⟩ := HC.out wF HBW.out
              by_cases hmore : st ≤ tt - A
              · have HN := Lib.hid (HFA.out.trans (HNEXT.out A b _ hend hmore))
                have e2 : IntKind.i64.wrap (A + st) = A + st := IntWalk.i64_in _ (by omega)
                have e3 : IntKind.i64.wrap (tt - A) = tt - A := IntWalk.i64_in _ (by omega)
                have HM2 : Hid (fr ≤ A + st ∧ A + st ≤ tt ∧ FS = FF ((tt - (A + st)).toNat + 1) (A + st) (some (A, sr, sm))) := Lib.hid ⟨by omega, by omega, by rw [HN.out, HNB2.out]; exact HFUEL.out _ _ _ _ (by omega) (by omega)⟩
                go_quiet (fail)
                have HBq := Lib.hid (belowN (Below.refl wF.heap.size wF) nq)
                clear e2 e3 f1 f3
                go_roundw
                case rel => (repeat apply Exists.intro); exact ⟨⟨A + st, true, true, (some (A, sr, sm)), A, sr, .slice o5 n5 c5, sm, rfl, rfl, rfl, Lib.hid (HNBB.out.call HBq.out HZW.out), Lib.hid (fun _ => HM2.out), Lib.hid (fun h => by cases h), Lib.hid (HBW.out.trans (HBq.out.mono HBW.out.size)), Lib.hid (Nat.le_trans HSW.out HBq.out.size)⟩, rfl⟩
                case measure => simp [mFnd, intOf]; omega
              · have HN := Lib.hid (HFA.out.trans (HLAST.out A b _ hend (by omega)))
                have e3 : IntKind.i64.wrap (tt - A) = tt - A := IntWalk.i64_in _ (by omega)
                have d3 : decide (st ≤ tt - A) = false := decide_eq_false hmore
                have HM2 : Hid (FS = (some (A, sr, sm))) := Lib.hid (HN.out.trans HNB2.out)
                go_quiet (fail)
                have HBq := Lib.hid (belowN (Below.refl wF.heap.size wF) nq)
                clear e3 d3 f1 f3
                go_roundw
                case rel => (repeat apply Exists.intro); exact ⟨⟨_, false, true, (some (A, sr, sm)), A, sr, .slice o5 n5 c5, sm, rfl, rfl, rfl, Lib.hid (HNBB.out.call HBq.out HZW.out), Lib.hid (fun h => by cases h), Lib.hid (fun _ => HM2.out), Lib.hid (HBW.out.trans (HBq.out.mono HBW.out.size)), Lib.hid (Nat.le_trans HSW.out HBq.out.size)⟩, rfl⟩
                case measure => simp [mFnd, intOf]
            | false =>
              have HNB2 : Hid (better b A (SR A) = b) := Lib.hid (by
                have ht := of_decide_eq_false HTB.out
                cases q with
                | false => rw [HQ0.out rfl]; rfl
                | true =>
                  obtain ⟨hsx, hsr⟩ := HQ1.out rfl
                  rw [hsr]
                  have hfd := HB.out.found
                  cases b with
                  | none => rw [hfd] at ht; exact absurd ⟨rfl, .inl rfl⟩ ht
                  | some c =>
                    refine better_keep ?_
                    rw [HN5.out, HB.out.is c rfl]
                    show ¬ n5 < bm.length
                    rw [HNB.out]
                    exact fun h => ht ⟨rfl, .inr h⟩)
              have HNBB := HBBE
              have HBW := HCE
              have HZW := HZE2
              have HSW := HSE2
              go_upto_region 7 with fail
              by_cases hmore : st ≤ tt - A
              · have HN := Lib.hid (HFA.out.trans (HNEXT.out A b _ hend hmore))
                have e2 : IntKind.i64.wrap (A + st) = A + st := IntWalk.i64_in _ (by omega)
                have e3 : IntKind.i64.wrap (tt - A) = tt - A := IntWalk.i64_in _ (by omega)
                have HM2 : Hid (fr ≤ A + st ∧ A + st ≤ tt ∧ FS = FF ((tt - (A + st)).toNat + 1) (A + st) b) := Lib.hid ⟨by omega, by omega, by rw [HN.out, HNB2.out]; exact HFUEL.out _ _ _ _ (by omega) (by omega)⟩
                go_quiet (fail)
                have HBq := Lib.hid (belowN (Below.refl wE.heap.size wE) nq)
                clear e2 e3 f1 f3
                go_roundw
                case rel => (repeat apply Exists.intro); exact ⟨⟨A + st, true, F, b, bx, br, .slice ob nb cb, bm, rfl, rfl, rfl, Lib.hid (HNBB.out.call HBq.out HZW.out), Lib.hid (fun _ => HM2.out), Lib.hid (fun h => by cases h), Lib.hid (HBW.out.trans (HBq.out.mono HBW.out.size)), Lib.hid (Nat.le_trans HSW.out HBq.out.size)⟩, rfl⟩
                case measure => simp [mFnd, intOf]; omega
              · have HN := Lib.hid (HFA.out.trans (HLAST.out A b _ hend (by omega)))
                have e3 : IntKind.i64.wrap (tt - A) = tt - A := IntWalk.i64_in _ (by omega)
                have d3 : decide (st ≤ tt - A) = false := decide_eq_false hmore
                have HM2 : Hid (FS = b) := Lib.hid (HN.out.trans HNB2.out)
                go_quiet (fail)
                have HBq := Lib.hid (belowN (Below.refl wE.heap.size wE) nq)
                clear e3 d3 f1 f3
                go_roundw
                case rel => (repeat apply Exists.intro); exact ⟨⟨_, false, F, b, bx, br, .slice ob nb cb, bm, rfl, rfl, rfl, Lib.hid (HNBB.out.call HBq.out HZW.out), Lib.hid (fun h => by cases h), Lib.hid (fun _ => HM2.out), Lib.hid (HBW.out.trans (HBq.out.mono HBW.out.size)), Lib.hid (Nat.le_trans HSW.out HBq.out.size)⟩, rfl⟩
                case measure => simp [mFnd, intOf]
        · have HFb : Hid (FS = b) := Lib.hid (HFA.out.trans (HEND.out A b _ (by omega)))
          have HWr := Lib.hid (thenB HBC.out HBk.out)
          have HR2 := Lib.hid (HR1.out wr HBk.out)
          have r0 := HR2.out.c0
          have r1 := HR2.out.c1
          have r2 := HR2.out.c2
          have q0 := HR2.out.f0
          have q1 := HR2.out.f1
          have q2 := HR2.out.f2
          cases F with
          | false =>
            have hb0 : b = none := by
              have := HB.out.found
              cases b
              · rfl
              · cases this
            have HRES := Lib.hid (HFN.out (HFb.out.trans hb0))
            clear hb0
            go_wp2_with fail
            have HG := HR2.out.put 0 0 (.slice none 0 0)
            refine bodyPost_ret (v := .tuple #[.agg #[.int .i64 0, .int .i64 0, .slice none 0 0], .iface 46 (.int .i64 12)]) (by simp [results, Tryd.results18, go_sem, HG.c0, HG.c1, HG.c2]) rfl ?_
            unfold FndPost
            rw [HRES.out.1, HRES.out.2]
            exact ⟨.slice none 0 0, rfl, IntL.nil _ _, below_put3 HWr.out HZZ.out _ _ _⟩
          | true =>
            obtain ⟨c, hc⟩ : ∃ c, b = some c := by
              have := HB.out.found
              cases b with
              | none => cases this
              | some c => exact ⟨c, rfl⟩
            have hc2 := HB.out.is c hc
            subst hc2
            have HRES := Lib.hid (HFS.out _ (HFb.out.trans hc))
            have x0 := HB.out.box.c0
            have x1 := HB.out.box.c1
            have x2 := HB.out.box.c2
            have HROW := Lib.hid HB.out.row
            have hzd : zB < wD.heap.size := by have h1 := HZB.out; have h2 := HSC.out; have h3 := HZE.out; have h4 := HSD.out; omega
            have hwz : w.heap.size ≤ wD.heap.size := by have h1 := HZZ.out; omega
            clear hc
            go_wp2_with fail
            have HG := HR2.out.put bx br (.slice ob nb cb)
            refine bodyPost_ret (v := .tuple #[.agg #[.int .i64 bx, .int .i64 br, .slice ob nb cb], .nilIface]) (by simp [results, Tryd.results18, go_sem, HG.c0, HG.c1, HG.c2]) rfl ?_
            unfold FndPost
            rw [HRES.out.1, HRES.out.2]
            exact ⟨.slice ob nb cb, rfl, IntL.low (IntL.far (IntL.far (IntL.far HROW.out (p := ⟨zB, 0, none⟩) hzd _) (p := ⟨zB, 1, none⟩) hzd _) (p := ⟨zB, 2, none⟩) hzd _) hwz, below_put3 HWr.out HZZ.out _ _ _⟩
  · have HF := Lib.hid (fnd_bad (W := W) (P := P) (R := R) (by rw [HNP.out]; exact hE))
    rw [HNP.out] at HF
    have HI := Lib.hid (errV_hit hE)
    rw [HI.out] at C1
    obtain ⟨E, hEE⟩ : ∃ E, wChk W np = E := ⟨_, rfl⟩
    rw [hEE] at C1 HF HI hE
    clear hEE
    go_wp2_with (go_at_call 22; refine (C1.out _ (Below.refl _ _)).mono ?_; rintro e w2 ⟨rfl, hb2⟩; have HB2 := Lib.hid hb2; have hr2 := HR1.out w2 hb2; have HR2 := Lib.hid hr2; have r0 := hr2.c0; have r1 := hr2.c1; have r2 := hr2.c2; have q0 := hr2.f0; have q1 := hr2.f1; have q2 := hr2.f2; clear hb2 hr2)
    have HG := HR2.out.put 0 0 (.slice none 0 0)
    refine bodyPost_ret (v := .tuple #[.agg #[.int .i64 0, .int .i64 0, .slice none 0 0], .iface 46 (.int .i64 E)]) (by simp [results, Tryd.results18, go_sem, HG.c0, HG.c1, HG.c2]) rfl ?_
    unfold FndPost
    rw [HF.out.1, HF.out.2]
    exact ⟨.slice none 0 0, by rw [HI.out], IntL.nil _ _, below_put3 (thenB HBC.out HB2.out) HZZ.out _ _ _⟩
end Go.Proofs.YtbmndenopgkpoaaDoor
