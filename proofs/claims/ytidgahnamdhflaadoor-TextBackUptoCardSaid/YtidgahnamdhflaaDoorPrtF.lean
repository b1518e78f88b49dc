/- text.Check; the document's partCheck. -/
import Derived.Test.YtidgahnamdhflaaDoorPrtE
namespace Go.Proofs.YtidgahnamdhflaaDoor
open Go.RowKit Go.Shelf Fld Prt
set_option maxRecDepth 100000 in
set_option maxHeartbeats 2000000 in
theorem textCheck_any (B : Nat) (p : Part) (u v : Value) (w : World) (hR : PartR B 8 w u v p) (hB : B ≤ w.heap.size) (hz : bkP p ≤ 1048576) :
    Calls Tryd.prog 20 #[.agg #[.string p.name, u, v]] w fun e w' => e = .returned (errV (chkP 8 0 p).1) ∧ Below w.heap.size w w' := by
  obtain ⟨⟨oa, ca, rfl⟩, ob, cb, rfl⟩ := hR.forms
  obtain ⟨s, hs⟩ : ∃ s, p.name = s := ⟨_, rfl⟩
  obtain ⟨M, hM⟩ : ∃ M, p.lines.length = M := ⟨_, rfl⟩
  obtain ⟨Q, hQ⟩ : ∃ Q, p.parts.length = Q := ⟨_, rfl⟩
  have HB1 : Hid (Below w.heap.size w ((w.alloc (.cells #[.string s, .slice oa M ca, .slice ob Q cb] 25)).alloc (.cells #[.int .i64 0] 3))) := Lib.hid (((Below.refl _ _).alloc (Nat.le_refl _) _).alloc (by simp) _)
  have C : Hid (Calls Tryd.prog 36 #[.agg #[.string s, .slice oa M ca, .slice ob Q cb], .int .i64 1, .pointer (some ⟨w.heap.size + 1, 0, none⟩)] ((w.alloc (.cells #[.string s, .slice oa M ca, .slice ob Q cb] 25)).alloc (.cells #[.int .i64 0] 3)) fun e w' => e = .returned (errV (chkP 8 0 p).1) ∧ KB (w.heap.size + 1) ((w.alloc (.cells #[.string s, .slice oa M ca, .slice ob Q cb] 25)).alloc (.cells #[.int .i64 0] 3)) w') := Lib.hid (by
    have h := check_any B 8 p (.slice oa p.lines.length ca) (.slice ob p.parts.length cb) (w.heap.size + 1) 0 1 ((w.alloc (.cells #[.string s, .slice oa M ca, .slice ob Q cb] 25)).alloc (.cells #[.int .i64 0] 3)) (hR.call (HB1.out.mono hB)) (by decide) (by decide) (by decide) (by decide) (by omega) ⟨by simp, by simp, by simp⟩ hz
    rw [hs, hM, hQ] at h
    exact h.mono fun e w' ⟨h1, h2, _⟩ => ⟨h1, h2⟩)
  obtain ⟨x, hx⟩ : ∃ x, errV (chkP 8 0 p).1 = x := ⟨_, rfl⟩
  rw [hx] at C ⊢
  rw [hs, hM, hQ]
  clear hR hB hz hx hs hM hQ
  go_enter Tryd.func20, Tryd.ntmps20
  go_wp2_with (go_at_call 36; (with_reducible refine C.out.mono ?_); rintro e w2 ⟨rfl, hk⟩; have HK := Lib.hid hk; clear hk)
  go_ret
  exact ⟨rfl, HB1.out.trans (HK.out.1.mono (by omega))⟩
/-- What partCheck answers. -/
def RckPost (b : Nat) (w : World) (r : Int × Int) (e : Ending) (w' : World) : Prop := e = .returned (.int .i64 r.1) ∧ KB b w w' ∧ (r.1 = 0 → NC b r.2 w')
theorem cleanQ_eq (l : List UInt8) : cleanQ l = (!(l.any (· == 34)) && !(l.any ctl)) := by
  unfold cleanQ
  induction l with
  | nil => rfl
  | cons a l ih =>
    rw [List.all_cons, List.any_cons, List.any_cons, ih, bne]
    cases a == 34 <;> cases ctl a <;> cases l.any (· == 34) <;> cases l.any ctl <;> rfl
theorem two_box (w : World) (s : ByteArray) (u : Value) (t : TypeId) (wx : World) (h : Below (w.heap.size + 1) (w.alloc (.cells #[.string s, u] t)) wx) :
    w.heap.size < wx.heap.size ∧ wx.cell? ⟨w.heap.size, 0, none⟩ = some (.string s) ∧ wx.cell? ⟨w.heap.size, 1, none⟩ = some u :=
  ⟨Nat.lt_of_lt_of_le (by simp) h.size, (h.cell (p := ⟨w.heap.size, 0, none⟩) (by simp)).trans (by simp), (h.cell (p := ⟨w.heap.size, 1, none⟩) (by simp)).trans (by simp)⟩
theorem three_box (w : World) (s : ByteArray) (u v : Value) (t : TypeId) (wx : World) (h : Below (w.heap.size + 1) (w.alloc (.cells #[.string s, u, v] t)) wx) :
    w.heap.size < wx.heap.size ∧ wx.cell? ⟨w.heap.size, 0, none⟩ = some (.string s) ∧ wx.cell? ⟨w.heap.size, 1, none⟩ = some u ∧ wx.cell? ⟨w.heap.size, 2, none⟩ = some v :=
  ⟨Nat.lt_of_lt_of_le (by simp) h.size, (h.cell (p := ⟨w.heap.size, 0, none⟩) (by simp)).trans (by simp), (h.cell (p := ⟨w.heap.size, 1, none⟩) (by simp)).trans (by simp), (h.cell (p := ⟨w.heap.size, 2, none⟩) (by simp)).trans (by simp)⟩
theorem headE_no {s : ByteArray} {xs : List Prm} {t : ByteArray} (hN : nameB s.data.toList = true) (hb1 : (s.toList == [66, 69, 71, 73, 78]) = false) (hb2 : (s.toList == [69, 78, 68]) = false) : headE ⟨s, xs, t⟩ = 0 := by
  unfold headE
  rw [if_neg]
  rintro (h | h | h)
  · exact absurd (hN.symm.trans h) (by decide)
  · rw [← Lib.toList_data] at h
    simp only at h
    rw [h] at hb1
    exact absurd hb1 (by decide)
  · rw [← Lib.toList_data] at h
    simp only at h
    rw [h] at hb2
    exact absurd hb2 (by decide)
set_option maxRecDepth 100000 in
set_option maxHeartbeats 8000000 in
theorem partCheck_any (B : Nat) : ∀ (k : Nat) (p : Part) (u v : Value) (b : Nat) (n d : Int) (w : World), PartR B k w u v p → d + k = 9 → 1 ≤ d → 0 ≤ n → n ≤ 2000 → B ≤ b → NC b n w → bkP p ≤ 1048576 →
    Calls Tryd.prog 21 #[.agg #[.string p.name, u, v], .int .i64 d, .pointer (some ⟨b, 0, none⟩)] w (RckPost b w (chkP k n p)) := by
  intro k
  induction k with
  | zero =>
    intro p u v b n d w hR hd hd1 hn0 hn1 hBb hC hz
    obtain ⟨⟨oa, ca, rfl⟩, ob, cb, rfl⟩ := hR.forms
    obtain rfl : d = 9 := by omega
    have hMb : p.lines.length ≤ 1048576 := by
      have h1 := sumB_len (f := bkL) (fun x => by unfold bkL; omega) p.lines
      have h2 := hz
      rw [bkP_eq] at h2
      omega
    obtain ⟨M, hM⟩ : ∃ M, p.lines.length = M := ⟨_, rfl⟩
    obtain ⟨Q, hQ⟩ : ∃ Q, p.parts.length = Q := ⟨_, rfl⟩
    obtain ⟨s, hs⟩ : ∃ s, p.name = s := ⟨_, rfl⟩
    have hbl := hC.2.2
    have SB := Lib.hid (fun wx h => part_box w s (.slice oa M ca) (.slice ob Q cb) b hbl 25 wx h)
    have HC := Lib.hid hC
    rw [hM] at hMb
    rw [hs, hM, hQ]
    clear hR hd hBb hz hC hs hM hQ
    go_enter Tryd.func21, Tryd.ntmps21
    go_upto_region 1 with fail
    obtain ⟨wB, hwB⟩ : ∃ x, w.alloc (.cells #[.string s, .slice oa M ca, .slice ob Q cb] 25) = x := ⟨_, rfl⟩
    have HBw : Hid (Below w.heap.size w wB) := Lib.hid (by rw [← hwB]; exact (Below.refl _ _).alloc (Nat.le_refl _) _)
    have HCB := Lib.hid (HC.out.call HBw.out)
    rw [hwB] at SB ⊢
    clear hwB
    obtain ⟨n0, nf, nl⟩ := HCB.out
    obtain ⟨l0, c0, c1, c2⟩ := SB.out _ (KB.refl _ _)
    go_cut [] from 16 (fun wx => Hid (KB b wB wx) ∧ Hid (NC b (n + 2 + (M : Int)) wx))
    case first =>
      go_region
      all_goals (go_wp2_with fail; go_meet; exact ⟨Lib.hid ((KB.refl b wB).set _).drew, Lib.hid (HCB.out.put _)⟩)
    case rest =>
      obtain ⟨HK, HN1⟩ := hcut
      clear n0 nf nl l0 c0 c1 c2
      obtain ⟨n0, nf, nl⟩ := HN1.out
      go_wp2_with fail
      go_ret
      exact ⟨by rw [chkP_zero]; rfl, (KB.of HBw.out (Nat.le_of_lt hbl)).trans HK.out, fun h => absurd h (show (6 : Int) ≠ 0 by decide)⟩
  | succ k ih =>
    intro p u v b n d w hR hd hd1 hn0 hn1 hBb hC hz
    obtain ⟨⟨oa, ca, rfl⟩, ob, cb, rfl⟩ := hR.forms
    obtain ⟨M, hM⟩ : ∃ M, p.lines.length = M := ⟨_, rfl⟩
    obtain ⟨Q, hQ⟩ : ∃ Q, p.parts.length = Q := ⟨_, rfl⟩
    rw [hM, hQ] at hR
    rw [hM, hQ]
    obtain ⟨s, hs⟩ : ∃ s, p.name = s := ⟨_, rfl⟩
    rw [hs]
    have HR := Lib.hid hR
    have HM := Lib.hid hM
    have HQ := Lib.hid hQ
    have HS := Lib.hid hs
    have HZ := Lib.hid hz
    have HC := Lib.hid hC
    have IH := Lib.hid ih
    have hbl := hC.2.2
    obtain ⟨n0, nf, -⟩ := hC
    have hMb : M ≤ 1048576 := by
      have h1 := sumB_len (f := bkL) (fun x => by unfold bkL; omega) p.lines
      have h2 := hz
      rw [bkP_eq] at h2
      omega
    have SB := Lib.hid (fun wx h => part_box w s (.slice oa M ca) (.slice ob Q cb) b hbl 25 wx h)
    clear hR hM hQ hs hz ih
    go_enter Tryd.func21, Tryd.ntmps21
    go_upto_region 1 with fail
    obtain ⟨wB, hwB⟩ : ∃ x, w.alloc (.cells #[.string s, .slice oa M ca, .slice ob Q cb] 25) = x := ⟨_, rfl⟩
    have HBw : Hid (Below w.heap.size w wB) := Lib.hid (by rw [← hwB]; exact (Below.refl _ _).alloc (Nat.le_refl _) _)
    have HCB := Lib.hid (HC.out.call HBw.out)
    rw [hwB] at SB ⊢
    clear hwB n0 nf
    obtain ⟨n0, nf, nl⟩ := HCB.out
    obtain ⟨l0, c0, c1, c2⟩ := SB.out _ (KB.refl _ _)
    go_cut [] from 16 (fun wx => Hid (KB b wB wx) ∧ Hid (NC b (n + 2 + (M : Int)) wx))
    case first =>
      go_region
      all_goals (go_wp2_with fail; go_meet; exact ⟨Lib.hid ((KB.refl b wB).set _).drew, Lib.hid (HCB.out.put _)⟩)
    case rest =>
      obtain ⟨HK, HN1⟩ := hcut
      have HN1b : Hid (0 ≤ n + 2 + (M : Int)) := Lib.hid (by omega)
      obtain ⟨N1, hN1⟩ : ∃ x, n + 2 + (M : Int) = x := ⟨_, rfl⟩
      rw [hN1] at HN1 HN1b
      have HNN : Hid (n + (2 + (p.lines.length : Int)) = N1) := Lib.hid (by rw [HM.out]; omega)
      clear hN1 n0 nf nl l0 c0 c1 c2 HCB
      obtain ⟨n0, nf, nl⟩ := HN1.out
      obtain ⟨l0, c0, c1, c2⟩ := SB.out _ HK.out
      have HKw : Hid (∀ wx, KB b wB wx → KB b w wx) := Lib.hid fun wx h => (KB.of HBw.out (Nat.le_of_lt hbl)).trans h
      have HBB : Hid (∀ wx, KB b wB wx → Below B w wx) := Lib.hid fun wx h => (HKw.out wx h).1.mono hBb
      have hd8 : ¬ 8 < d := by omega
      by_cases hmany : 2000 < N1
      · have HE : Hid (chkP (k + 1) n p = (6, n)) := Lib.hid (chkP_many (by rw [HNN.out]; exact hmany))
        go_wp2_with fail
        go_ret
        exact ⟨by rw [HE.out]; rfl, HKw.out _ HK.out, fun h => by rw [HE.out] at h; exact absurd h (show (6 : Int) ≠ 0 by decide)⟩
      · have hns : s.size ≤ 1048576 := by have := HZ.out; rw [bkP_eq, HS.out] at this; omega
        have CN : Hid (∀ w0, Calls Tryd.prog 37 #[.string s] w0 fun e w' => e = .returned (.bool (nameB s.data.toList)) ∧ w0 = w') := Lib.hid fun w0 => partName_any s w0 (by omega)
        cases hN : nameB s.data.toList with
        | false =>
          rw [hN] at CN
          have HE : Hid (chkP (k + 1) n p = (8, n)) := Lib.hid (chkP_name (by rw [HNN.out]; exact hmany) (by rw [HS.out]; exact hN))
          clear hN
          go_wp2_with (go_at_call 37; refine (CN.out _).mono ?_; rintro e w1 ⟨rfl, rfl⟩)
          go_ret
          exact ⟨by rw [HE.out]; rfl, HKw.out _ HK.out, fun h => by rw [HE.out] at h; exact absurd h (show (8 : Int) ≠ 0 by decide)⟩
        | true =>
          rw [hN] at CN
          have HNb : Hid (nameB p.name.data.toList = true) := Lib.hid (by rw [HS.out]; exact hN)
          have HNM : Hid (¬ 2000 < n + (2 + (p.lines.length : Int))) := Lib.hid (by rw [HNN.out]; exact hmany)
          clear hN
          go_wp2_with (go_at_call 37; refine (CN.out _).mono ?_; rintro e w1 ⟨rfl, rfl⟩)
          clear n0 nf nl l0 c0 c1 c2
          go_loopw [41] (fun c wr => ∃ i : Nat, c = .int .i64 (i : Int) ∧ i ≤ M ∧ Hid (firstE lineE p.lines = firstE lineE (p.lines.drop i)) ∧ Hid (KB b wB wr) ∧ Hid (NC b N1 wr)) (fun c _ => M - (intOf c).toNat)
          case atStart => exact ⟨0, rfl, by omega, Lib.hid (by rw [List.drop_zero]), HK, HN1⟩
          case round =>
            clear HK HN1
            obtain ⟨i, rfl, hi, HF, HKr, HNr⟩ := hrel
            obtain ⟨wA, rfl⟩ : ∃ wo : World, wo = wr := ⟨_, rfl⟩
            have HWA := Lib.hid (HBB.out _ HKr.out)
            have hBs : B ≤ wA.heap.size := Nat.le_trans hBb (Nat.le_of_lt HNr.out.2.2)
            by_cases hin : i < M
            · have hil : i < p.lines.length := by rw [HM.out]; exact hin
              obtain ⟨a, rfl, hab, x0, ⟨u, x1, hU⟩, x2⟩ := (HR.out.1.call HWA.out).at hil
              have hfo := firstE_of HF.out ln0 hil
              have hbx : bkL (p.lines.getD i ln0) ≤ 1048576 := Nat.le_trans (sumB_at bkL ln0 p.lines i hil) (by have := HZ.out; rw [bkP_eq] at this; omega)
              obtain ⟨X, hX⟩ : ∃ X, p.lines.getD i ln0 = X := ⟨_, rfl⟩
              rw [hX] at x0 x2 hU hfo hbx
              have hlb := World.block_lt_of_cell? _ _ x0
              have HFO := Lib.hid hfo
              have k1 : (0 : Int) ≤ (i : Int) := by omega
              have k2 : (i : Int) < (M : Int) := by omega
              have HBAD : Hid (∀ x, lineE X = x → x ≠ 0 → chkP (k + 1) n p = (x, n)) := Lib.hid fun x hx hx0 => by
                have h1 := HFO.out.1 (by rw [hx]; exact hx0)
                rw [hx] at h1
                rw [chkP_line (by have := HNM.out; omega) HNb.out (by rw [h1]; exact hx0), h1]
              obtain ⟨t1, xs, t2⟩ := X
              simp only at x0 x2 hU
              obtain ⟨o1, e1, rfl, -, -⟩ := id hU
              obtain ⟨m1, hm1⟩ : ∃ y, xs.length = y := ⟨_, rfl⟩
              rw [hm1] at x1 hU
              have HU := Lib.hid hU
              have HM1 := Lib.hid hm1
              have HBX := Lib.hid hbx
              have hmb : m1 ≤ 1048576 := by
                have h1 := sumB_len (f := bkX) (fun x => by unfold bkX; omega) xs
                have h2 := hbx
                unfold bkL at h2
                simp only at h2
                omega
              have hts : t1.size ≤ 1048576 ∧ t2.size ≤ 1048576 := by
                have h2 := hbx
                unfold bkL at h2
                simp only at h2
                omega
              have HTS := Lib.hid hts
              have CX : Hid (∀ w0, Calls Tryd.prog 37 #[.string t1] w0 fun e w' => e = .returned (.bool (nameB t1.data.toList)) ∧ w0 = w') := Lib.hid fun w0 => partName_any t1 w0 (by omega)
              have HBA := Lib.hid ((Below.refl wA.heap.size wA).alloc (Nat.le_refl _) (.cells #[.string t1, .slice o1 m1 e1, .string t2] 64))
              have S3 := Lib.hid (fun wx h => three_box wA t1 (.slice o1 m1 e1) (.string t2) 64 wx h)
              have HKA : Hid (∀ wx, Below (wA.heap.size + 1) (wA.alloc (.cells #[.string t1, .slice o1 m1 e1, .string t2] 64)) wx → Below wA.heap.size wA wx) := Lib.hid fun wx h => HBA.out.trans (h.mono (by omega))
              clear hm1 hU hX hfo hbx hil hts
              cases hNx : nameB t1.data.toList with
              | false =>
                rw [hNx] at CX
                have HL : Hid (chkP (k + 1) n p = (8, n)) := Lib.hid (HBAD.out 8 (lineE_head (by unfold headE; rw [if_pos (.inl hNx)]) (by decide)) (by decide))
                clear hNx
                go_wp2_with (go_at_call 37; refine (CX.out _).mono ?_; rintro e w1 ⟨rfl, rfl⟩)
                go_ret
                exact ⟨by rw [HL.out]; rfl, HKw.out _ (HKr.out.trans (KB.of HBA.out (Nat.le_of_lt HNr.out.2.2))), fun h => by rw [HL.out] at h; exact absurd h (show (8 : Int) ≠ 0 by decide)⟩
              | true =>
                rw [hNx] at CX
                cases hb1 : (t1.toList == [66, 69, 71, 73, 78]) with
                | true =>
                  have HL : Hid (chkP (k + 1) n p = (8, n)) := Lib.hid (HBAD.out 8 (lineE_head (by unfold headE; rw [if_pos (.inr (.inl (by rw [← Lib.toList_data]; simpa using hb1)))]) (by decide)) (by decide))
                  clear hNx
                  go_wp2_with (go_at_call 37; refine (CX.out _).mono ?_; rintro e w1 ⟨rfl, rfl⟩)
                  go_ret
                  exact ⟨by rw [HL.out]; rfl, HKw.out _ (HKr.out.trans (KB.of HBA.out (Nat.le_of_lt HNr.out.2.2))), fun h => by rw [HL.out] at h; exact absurd h (show (8 : Int) ≠ 0 by decide)⟩
                | false =>
                  cases hb2 : (t1.toList == [69, 78, 68]) with
                  | true =>
                    have HL : Hid (chkP (k + 1) n p = (8, n)) := Lib.hid (HBAD.out 8 (lineE_head (by unfold headE; rw [if_pos (.inr (.inr (by rw [← Lib.toList_data]; simpa using hb2)))]) (by decide)) (by decide))
                    clear hNx
                    go_wp2_with (go_at_call 37; refine (CX.out _).mono ?_; rintro e w1 ⟨rfl, rfl⟩)
                    go_ret
                    exact ⟨by rw [HL.out]; rfl, HKw.out _ (HKr.out.trans (KB.of HBA.out (Nat.le_of_lt HNr.out.2.2))), fun h => by rw [HL.out] at h; exact absurd h (show (8 : Int) ≠ 0 by decide)⟩
                  | false =>
                    have HH : Hid (headE ⟨t1, xs, t2⟩ = 0) := Lib.hid (headE_no hNx hb1 hb2)
                    clear hNx
                    go_wp2_with (go_at_call 37; refine (CX.out _).mono ?_; rintro e w1 ⟨rfl, rfl⟩)
                    clear hb1 hb2 x0 x1 x2
                    go_loopw [62] (fun c wr => ∃ q : Nat, c = .int .i64 (q : Int) ∧ q ≤ m1 ∧ Hid (firstE prmE xs = firstE prmE (xs.drop q)) ∧ Hid (Below (wA.heap.size + 1) (wA.alloc (.cells #[.string t1, .slice o1 m1 e1, .string t2] 64)) wr)) (fun c _ => m1 - (intOf c).toNat)
                    case atStart => exact ⟨0, rfl, by omega, Lib.hid (by rw [List.drop_zero]), Lib.hid (Below.refl _ _)⟩
                    case round =>
                      obtain ⟨q, rfl, hq, HPF, HPr⟩ := hrel
                      obtain ⟨wE, rfl⟩ : ∃ wo : World, wo = wr := ⟨_, rfl⟩
                      have HAE := Lib.hid (HKA.out _ HPr.out)
                      have HKE : Hid (KB b wB wE) := Lib.hid (HKr.out.trans (KB.of HAE.out (Nat.le_of_lt HNr.out.2.2)))
                      have hNE := (HNr.out.call HAE.out).2.2
                      by_cases hqm : q < m1
                      · have hql : q < xs.length := by rw [HM1.out]; exact hqm
                        obtain ⟨a2, rfl, hab2, y0, u2, y1, hV⟩ := (HU.out.call (HAE.out.mono hBs)).at hql
                        have hpo := firstE_of HPF.out prm0 hql
                        have hby : bkX (xs.getD q prm0) ≤ 1048576 := Nat.le_trans (sumB_at bkX prm0 xs q hql) (by have := HBX.out; unfold bkL at this; simp only at this; omega)
                        obtain ⟨Y, hY⟩ : ∃ Y, xs.getD q prm0 = Y := ⟨_, rfl⟩
                        rw [hY] at y0 hV hpo hby
                        obtain ⟨nm, vs⟩ := Y
                        simp only at y0 hV
                        have hlb2 := World.block_lt_of_cell? _ _ y0
                        have HPO := Lib.hid hpo
                        have HPB : Hid (∀ x, prmE ⟨nm, vs⟩ = x → x ≠ 0 → chkP (k + 1) n p = (x, n)) := Lib.hid fun x hx hx0 => by
                          have h1 := HPO.out.1 (by rw [hx]; exact hx0)
                          rw [hx] at h1
                          exact HBAD.out x ((lineE_prm HH.out (by simp only; rw [h1]; exact hx0)).trans h1) hx0
                        have k3 : (0 : Int) ≤ (q : Int) := by omega
                        have k4 : (q : Int) < (m1 : Int) := by omega
                        have CY : Hid (∀ w0, Calls Tryd.prog 37 #[.string nm] w0 fun e w' => e = .returned (.bool (nameB nm.data.toList)) ∧ w0 = w') := Lib.hid fun w0 => partName_any nm w0 (by have := hby; unfold bkX at this; simp only at this; omega)
                        obtain ⟨o3, e3, rfl, -, -⟩ := id hV
                        obtain ⟨m3, hm3⟩ : ∃ y, vs.length = y := ⟨_, rfl⟩
                        rw [hm3] at y1 hV
                        have HV := Lib.hid hV
                        have HM3 := Lib.hid hm3
                        have HBY := Lib.hid hby
                        have HE2 := Lib.hid ((Below.refl wE.heap.size wE).alloc (Nat.le_refl _) (.cells #[.string nm, .slice o3 m3 e3] 66))
                        have HK2 : Hid (KB b w (wE.alloc (.cells #[.string nm, .slice o3 m3 e3] 66))) := Lib.hid (HKw.out _ (HKE.out.trans (KB.of HE2.out (Nat.le_of_lt hNE))))
                        have HP2 := Lib.hid (HPr.out.alloc (by have := HPr.out.size; simpa using this) (.cells #[.string nm, .slice o3 m3 e3] 66))
                        clear hpo hby hY hql hV hm3
                        cases hNy : nameB nm.data.toList with
                        | false =>
                          rw [hNy] at CY
                          have HL : Hid (chkP (k + 1) n p = (8, n)) := Lib.hid (HPB.out 8 (if_pos hNy) (by decide))
                          clear hNy
                          go_wp2_with (go_at_call 37; refine (CY.out _).mono ?_; rintro e w1 ⟨rfl, rfl⟩)
                          go_ret
                          exact ⟨by rw [HL.out]; rfl, HK2.out, fun h => by rw [HL.out] at h; exact absurd h (show (8 : Int) ≠ 0 by decide)⟩
                        | true =>
                          rw [hNy] at CY
                          rcases Nat.eq_zero_or_pos m3 with hm0 | hm0
                          · subst hm0
                            have HL : Hid (chkP (k + 1) n p = (13, n)) := Lib.hid (HPB.out 13 (by unfold prmE; rw [if_neg (by simp only; rw [hNy]; decide), if_pos HM3.out]) (by decide))
                            clear hNy
                            go_wp2_with (go_at_call 37; refine (CY.out _).mono ?_; rintro e w1 ⟨rfl, rfl⟩)
                            go_ret
                            exact ⟨by rw [HL.out]; rfl, HK2.out, fun h => by rw [HL.out] at h; exact absurd h (show (13 : Int) ≠ 0 by decide)⟩
                          · have hvb : m3 ≤ 1048576 := by
                              have h1 := sumB_len (f := bkV) (fun x => by unfold bkV; omega) vs
                              have h2 := HBY.out
                              have h3 := HM3.out
                              unfold bkX at h2
                              simp only at h2
                              omega
                            have HPE : Hid (prmE ⟨nm, vs⟩ = firstE valE vs) := Lib.hid (by unfold prmE; rw [if_neg (by simp only; rw [hNy]; decide), if_neg (by simp only; rw [HM3.out]; omega)])
                            have hm31 : ((m3 : Int) == 0) = false := beq_eq_false_iff_ne.2 (by omega)
                            clear hNy
                            go_wp2_with (go_at_call 37; refine (CY.out _).mono ?_; rintro e w1 ⟨rfl, rfl⟩)
                            obtain ⟨wG, hwG⟩ : ∃ x, wE.alloc (.cells #[.string nm, .slice o3 m3 e3] 66) = x := ⟨_, rfl⟩
                            rw [hwG] at HE2 HK2 HP2 ⊢
                            clear hwG y0 y1
                            go_loop [77] (fun c => ∃ j : Nat, c = .int .i64 (j : Int) ∧ j ≤ m3 ∧ Hid (firstE valE vs = firstE valE (vs.drop j))) (fun c => m3 - (intOf c).toNat)
                            case atStart => exact ⟨0, rfl, by omega, Lib.hid (by rw [List.drop_zero])⟩
                            case round =>
                              obtain ⟨j, rfl, hj, HG⟩ := hrel
                              by_cases hjm : j < m3
                              · have hjl : j < vs.length := by rw [HM3.out]; exact hjm
                                obtain ⟨dd, hd0⟩ : ∃ dd, o3 = some dd := by
                                  obtain ⟨_, _, h1, h2, -⟩ := HV.out
                                  simp only [Value.slice.injEq] at h1
                                  obtain ⟨rfl, -, -⟩ := h1
                                  exact h2 (by omega)
                                subst hd0
                                have z0 := ((HV.out.call (HE2.out.mono (Nat.le_trans hBs HAE.out.size))).at hjl)
                                have hgo := firstE_of HG.out ⟨#[]⟩ hjl
                                have hbv : bkV (vs.getD j ⟨#[]⟩) ≤ 1048576 := Nat.le_trans (sumB_at bkV ⟨#[]⟩ vs j hjl) (by have := HBY.out; unfold bkX at this; simp only at this; omega)
                                obtain ⟨V, hVV⟩ : ∃ V, vs.getD j ⟨#[]⟩ = V := ⟨_, rfl⟩
                                rw [hVV] at z0 hgo hbv
                                have hdb := World.block_lt_of_cell? _ _ z0
                                have HGO := Lib.hid hgo
                                have j1 : (0 : Int) ≤ (j : Int) := by omega
                                have j2 : (j : Int) < (m3 : Int) := by omega
                                have CH : Hid (∀ w0, Calls Tryd.prog 35 #[.string V, .string ⟨#[34]⟩] w0 fun e w' => e = .returned (.bool (V.data.toList.any (· == 34))) ∧ w0 = w') := Lib.hid fun w0 => has_any V 34 w0 (by unfold bkV at hbv; omega)
                                have CC : Hid (∀ w0, Calls Tryd.prog 38 #[.string V] w0 fun e w' => e = .returned (.bool (V.data.toList.any ctl)) ∧ w0 = w') := Lib.hid fun w0 => controls_any V w0 (by unfold bkV at hbv; omega)
                                have hcq := cleanQ_eq V.data.toList
                                have HL5 : Hid (cleanQ V.data.toList = false → chkP (k + 1) n p = (5, n)) := Lib.hid fun h => by
                                  have hE : valE V = 5 := if_neg (by rw [h]; decide)
                                  have h1 := HGO.out.1 (by rw [hE]; decide)
                                  rw [hE] at h1
                                  exact HPB.out 5 (by rw [HPE.out, h1]) (by decide)
                                clear hgo hbv hVV hjl
                                cases hq1 : V.data.toList.any (· == 34) with
                                | true =>
                                  rw [hq1] at CH hcq
                                  have HL := Lib.hid (HL5.out (by rw [hcq]; rfl))
                                  clear hq1 hcq
                                  go_wp2_with (first | (go_at_call 35; refine (CH.out _).mono ?_; rintro e w3 ⟨rfl, rfl⟩) | (go_at_call 38; refine (CC.out _).mono ?_; rintro e w3 ⟨rfl, rfl⟩))
                                  go_ret
                                  exact ⟨by rw [HL.out]; rfl, HK2.out, fun h => by rw [HL.out] at h; exact absurd h (show (5 : Int) ≠ 0 by decide)⟩
                                | false =>
                                  rw [hq1] at CH hcq
                                  cases hq2 : V.data.toList.any ctl with
                                  | true =>
                                    rw [hq2] at CC hcq
                                    have HL := Lib.hid (HL5.out (by rw [hcq]; rfl))
                                    clear hq1 hq2 hcq
                                    go_wp2_with (first | (go_at_call 35; refine (CH.out _).mono ?_; rintro e w3 ⟨rfl, rfl⟩) | (go_at_call 38; refine (CC.out _).mono ?_; rintro e w3 ⟨rfl, rfl⟩))
                                    go_ret
                                    exact ⟨by rw [HL.out]; rfl, HK2.out, fun h => by rw [HL.out] at h; exact absurd h (show (5 : Int) ≠ 0 by decide)⟩
                                  | false =>
                                    rw [hq2] at CC hcq
                                    have HN5 := Lib.hid (HGO.out.2 (if_pos hcq))
                                    clear hq1 hq2 hcq
                                    go_wp2_with (first | (go_at_call 35; refine (CH.out _).mono ?_; rintro e w3 ⟨rfl, rfl⟩) | (go_at_call 38; refine (CC.out _).mono ?_; rintro e w3 ⟨rfl, rfl⟩))
                                    go_round
                                    case rel => exact ⟨j + 1, by go_num, by omega, HN5⟩
                                    case measure => simp [intOf]; omega
                              · obtain rfl : j = m3 := by omega
                                have HN5 := Lib.hid (HPO.out.2 (by rw [HPE.out, HG.out, firstE_end _ _ _ (by rw [HM3.out]; exact Nat.le_refl _)]))
                                go_wp2_with fail
                                go_roundw
                                case rel => exact ⟨q + 1, by go_num, by omega, HN5, HP2⟩
                                case measure => simp [intOf]; omega
                      · obtain rfl : q = m1 := by omega
                        have HF0 : Hid (lineE ⟨t1, xs, t2⟩ = tailE ⟨t1, xs, t2⟩) := Lib.hid (lineE_tail HH.out (by simp only; rw [HPF.out]; exact firstE_end _ _ _ (by rw [HM1.out]; exact Nat.le_refl _)))
                        obtain ⟨l3, d0, d1, d2⟩ := S3.out _ HPr.out
                        have CC : Hid (∀ w0, Calls Tryd.prog 38 #[.string t2] w0 fun e w' => e = .returned (.bool (t2.data.toList.any ctl)) ∧ w0 = w') := Lib.hid fun w0 => controls_any t2 w0 (by have := HTS.out; omega)
                        cases hq2 : t2.data.toList.any ctl with
                        | true =>
                          rw [hq2] at CC
                          have HL : Hid (chkP (k + 1) n p = (5, n)) := Lib.hid (HBAD.out 5 (by rw [HF0.out]; exact if_neg (by unfold cleanB; simp only; rw [hq2]; decide)) (by decide))
                          clear hq2
                          go_wp2_with (go_at_call 38; refine (CC.out _).mono ?_; rintro e w3 ⟨rfl, rfl⟩)
                          go_ret
                          exact ⟨by rw [HL.out]; rfl, HKw.out _ HKE.out, fun h => by rw [HL.out] at h; exact absurd h (show (5 : Int) ≠ 0 by decide)⟩
                        | false =>
                          rw [hq2] at CC
                          have HN5 := Lib.hid (HFO.out.2 (by rw [HF0.out]; exact if_pos (by unfold cleanB; simp only; rw [hq2]; rfl)))
                          clear hq2
                          go_wp2_with (go_at_call 38; refine (CC.out _).mono ?_; rintro e w3 ⟨rfl, rfl⟩)
                          go_roundw
                          case rel => exact ⟨i + 1, by go_num, by omega, HN5, HKE, Lib.hid (HNr.out.call HAE.out)⟩
                          case measure => simp [intOf]; omega
            · obtain rfl : i = M := by omega
              have HF0 : Hid (firstE lineE p.lines = 0) := Lib.hid (by rw [HF.out]; exact firstE_end _ _ _ (by rw [HM.out]; exact Nat.le_refl _))
              have HCH : Hid (chkP (k + 1) n p = chkL (chkP k) N1 p.parts) := Lib.hid (by rw [chkP_parts (by have := HNM.out; omega) HNb.out HF0.out, HNN.out])
              obtain ⟨l0, c0, c1, c2⟩ := SB.out _ HKr.out
              have hQb : Q ≤ 1048576 := by
                have h1 := bkPs_len p.parts
                have h2 := HZ.out
                have h3 := HQ.out
                rw [bkP_eq] at h2
                omega
              go_wp2_with fail
              clear l0 c0 c1 c2 HF HF0
              go_loopw [96] (fun c wr => ∃ (j : Nat) (N : Int), c = .int .i64 (j : Int) ∧ j ≤ Q ∧ Hid (chkP (k + 1) n p = chkL (chkP k) N (p.parts.drop j)) ∧ Hid (0 ≤ N ∧ N ≤ 2000) ∧ Hid (KB b wB wr) ∧ Hid (NC b N wr)) (fun c _ => Q - (intOf c).toNat)
              case atStart => exact ⟨0, N1, rfl, by omega, Lib.hid (by rw [List.drop_zero]; exact HCH.out), Lib.hid ⟨HN1b.out, by omega⟩, HKr, HNr⟩
              case round =>
                clear HKr HNr HCH HWA hBs
                obtain ⟨j, N, rfl, hj, HG, HNb2, HKr2, HNr2⟩ := hrel
                obtain ⟨wD, rfl⟩ : ∃ wo : World, wo = wr := ⟨_, rfl⟩
                have HWD := Lib.hid (HBB.out _ HKr2.out)
                have hBs : B ≤ wD.heap.size := Nat.le_trans hBb (Nat.le_of_lt HNr2.out.2.2)
                by_cases hjq : j < Q
                · have hjl : j < p.parts.length := by rw [HQ.out]; exact hjq
                  obtain ⟨a, rfl, hab, x0, u2, v2, x1, x2, hU⟩ := (HR.out.call HWD.out).at hjl
                  obtain ⟨X, hX⟩ : ∃ X, p.parts.getD j part0 = X := ⟨_, rfl⟩
                  have hdr : p.parts.drop j = X :: p.parts.drop (j + 1) := by rw [List.drop_eq_getElem_cons hjl, ← hX]; simp [List.getD, hjl]
                  have hbx : bkP X ≤ 1048576 := by rw [← hX]; exact Nat.le_trans (bkPs_at p.parts j hjl) (by have := HZ.out; rw [bkP_eq] at this; omega)
                  rw [hX] at x0 hU
                  have hlb := World.block_lt_of_cell? _ _ x0
                  have k1 : (0 : Int) ≤ (j : Int) := by omega
                  have k2 : (j : Int) < (Q : Int) := by omega
                  obtain ⟨⟨r, N'⟩, hr⟩ : ∃ r, chkP k N X = r := ⟨_, rfl⟩
                  have CK : Hid (∀ w0, Below wD.heap.size wD w0 → Calls Tryd.prog 21 #[.agg #[.string X.name, u2, v2], .int .i64 (d + 1), .pointer (some ⟨b, 0, none⟩)] w0 (RckPost b w0 (r, N'))) := Lib.hid fun w0 hb => hr ▸ IH.out X u2 v2 b N (d + 1) w0 (hU.call (hb.mono hBs)) (by omega) (by omega) HNb2.out.1 HNb2.out.2 hBb (HNr2.out.call hb) hbx
                  obtain ⟨⟨o1, e1, rfl⟩, o2, e2, rfl⟩ := hU.forms
                  obtain ⟨s1, hs1⟩ : ∃ y, X.name = y := ⟨_, rfl⟩
                  obtain ⟨m1, hm1⟩ : ∃ y, X.lines.length = y := ⟨_, rfl⟩
                  obtain ⟨m2, hm2⟩ : ∃ y, X.parts.length = y := ⟨_, rfl⟩
                  rw [hs1, hm1, hm2] at CK
                  rw [hs1] at x0
                  rw [hm1] at x1
                  rw [hm2] at x2
                  have HRR := Lib.hid hr
                  have HDR := Lib.hid hdr
                  have HBA := Lib.hid ((Below.refl wD.heap.size wD).alloc (Nat.le_refl _) (.cells #[.string s1, .slice o1 m1 e1, .slice o2 m2 e2] 25))
                  clear hs1 hm1 hm2 hr hdr hbx hU hX hjl
                  by_cases hr0 : r = 0
                  · subst hr0
                    have CKx : Hid (∀ w0, Below wD.heap.size wD w0 → Calls Tryd.prog 21 #[.agg #[.string s1, .slice o1 m1 e1, .slice o2 m2 e2], .int .i64 (d + 1), .pointer (some ⟨b, 0, none⟩)] w0 fun e w' => e = .returned (.int .i64 0) ∧ KB b w0 w' ∧ NC b N' w') := Lib.hid fun w0 hb => (CK.out w0 hb).mono fun e w' ⟨h1, h2, h3⟩ => ⟨h1, h2, h3 rfl⟩
                    have HG2 : Hid (chkP (k + 1) n p = chkL (chkP k) N' (p.parts.drop (j + 1))) := Lib.hid (by rw [HG.out, HDR.out, chkL_go (by rw [HRR.out]), HRR.out])
                    have HNb3 : Hid (0 ≤ N' ∧ N' ≤ 2000) := Lib.hid (by have h1 := chkP_le k N X HNb2.out.2 (by rw [HRR.out]); rw [HRR.out] at h1; have h2 := HNb2.out.1; exact ⟨by omega, h1.2⟩)
                    clear CK
                    go_wp2_with (go_at_call 21; (with_reducible refine (CKx.out _ HBA.out).mono ?_); rintro e w2 ⟨rfl, hk, hn⟩; have HB2 := Lib.hid ((KB.of HBA.out (Nat.le_of_lt HNr2.out.2.2)).trans hk); have HN4 := Lib.hid hn; clear hk hn)
                    go_roundw
                    case rel => exact ⟨j + 1, N', by go_num, by omega, HG2, HNb3, Lib.hid (HKr2.out.trans HB2.out), HN4⟩
                    case measure => simp [intOf]; omega
                  · have hev : (r == 0) = false := beq_eq_false_iff_ne.2 hr0
                    have CKx : Hid (∀ w0, Below wD.heap.size wD w0 → Calls Tryd.prog 21 #[.agg #[.string s1, .slice o1 m1 e1, .slice o2 m2 e2], .int .i64 (d + 1), .pointer (some ⟨b, 0, none⟩)] w0 fun e w' => e = .returned (.int .i64 r) ∧ KB b w0 w') := Lib.hid fun w0 hb => (CK.out w0 hb).mono fun e w' ⟨h1, h2, h3⟩ => ⟨h1, h2⟩
                    have HE : Hid (chkP (k + 1) n p = (r, N')) := Lib.hid (by rw [HG.out, HDR.out, chkL_hit (by rw [HRR.out]; exact hr0), HRR.out])
                    have hev2 : (r != 0) = true := by rw [bne, hev]; rfl
                    have HX0 := Lib.hid hr0
                    clear hr0 CK
                    go_wp2_with (go_at_call 21; (with_reducible refine (CKx.out _ HBA.out).mono ?_); rintro e w2 ⟨rfl, hk⟩; have HB2 := Lib.hid ((KB.of HBA.out (Nat.le_of_lt HNr2.out.2.2)).trans hk); clear hk)
                    go_ret
                    exact ⟨by rw [HE.out]; rfl, HKw.out _ (HKr2.out.trans HB2.out), fun h => by rw [HE.out] at h; exact absurd h HX0.out⟩
                · obtain rfl : j = Q := by omega
                  have HE : Hid (chkP (k + 1) n p = (0, N)) := Lib.hid (by rw [HG.out, List.drop_of_length_le (by rw [HQ.out]; exact Nat.le_refl _)]; rfl)
                  go_wp2_with fail
                  go_ret
                  exact ⟨by rw [HE.out]; rfl, HKw.out _ HKr2.out, fun _ => by rw [HE.out]; exact HNr2.out⟩
end Go.Proofs.YtidgahnamdhflaaDoor
