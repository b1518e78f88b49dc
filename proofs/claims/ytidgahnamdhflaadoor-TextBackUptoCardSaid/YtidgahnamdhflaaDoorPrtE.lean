/- text.check, text.Check. -/
import Derived.Test.YtidgahnamdhflaaDoorPrtD
namespace Go.Proofs.YtidgahnamdhflaaDoor
open Go.RowKit Go.Shelf Fld Prt
/-- All stands as it stood, but what lies in block b, and what is new. -/
def KB (b : Nat) (w w' : World) : Prop := Below b w w' ∧ ∀ k, k ≠ b → k < w.heap.size → w'.heap[k]? = w.heap[k]?
theorem KB.refl (b : Nat) (w : World) : KB b w w := ⟨Below.refl _ _, fun _ _ _ => rfl⟩
theorem KB.trans {b : Nat} {w w1 w2 : World} (h : KB b w w1) (h2 : KB b w1 w2) : KB b w w2 :=
  ⟨h.1.trans h2.1, fun k hk hl => (h2.2 k hk (Nat.lt_of_lt_of_le hl h.1.size)).trans (h.2 k hk hl)⟩
theorem KB.of {b : Nat} {w w' : World} (h : Below w.heap.size w w') (hb : b ≤ w.heap.size) : KB b w w' := ⟨h.mono hb, fun k _ hl => h.block k hl⟩
theorem KB.set {b : Nat} {w w1 : World} (h : KB b w w1) (v : Value) : KB b w (w1.setCell ⟨b, 0, none⟩ v) :=
  ⟨h.1.setCell (p := ⟨b, 0, none⟩) (Nat.le_refl _) v, fun k hk hl => by rw [Below.heap_setCell _ _ _ _ (fun e => hk e)]; exact h.2 k hk hl⟩
theorem KB.drew {b : Nat} {w w1 : World} (h : KB b w w1) : KB b w w1.drew := ⟨below_drew h.1, h.2⟩
theorem KB.cell {b : Nat} {w w' : World} (h : KB b w w') {p : Addr} (hp : p.block ≠ b) (hl : p.block < w.heap.size) : w'.cell? p = w.cell? p := World.cell?_of_block (h.2 p.block hp hl)
/-- The counter. -/
def NC (b : Nat) (n : Int) (w : World) : Prop := w.cell? ⟨b, 0, none⟩ = some (.int .i64 n) ∧ w.frozen? ⟨b, 0, none⟩ = false ∧ b < w.heap.size
theorem NC.call {b : Nat} {n : Int} {w w' : World} (h : NC b n w) (hb : Below w.heap.size w w') : NC b n w' :=
  ⟨(hb.cell (p := ⟨b, 0, none⟩) h.2.2).trans h.1, (hb.frozen (p := ⟨b, 0, none⟩) h.2.2).trans h.2.1, Nat.lt_of_lt_of_le h.2.2 hb.size⟩
theorem NC.put {b : Nat} {n : Int} {w : World} (h : NC b n w) (m : Int) : NC b m (w.setCell ⟨b, 0, none⟩ (.int .i64 m)) :=
  ⟨World.cell?_setCell_same _ _ _ h.1, by have := h.2.1; simpa using this, by have := h.2.2; simpa [World.setCell] using this⟩
theorem chkL_le (f : Int → Part → Int × Int) (hf : ∀ n p, n ≤ 2000 → (f n p).1 = 0 → n ≤ (f n p).2 ∧ (f n p).2 ≤ 2000) : ∀ (l : List Part) (n : Int), n ≤ 2000 → (chkL f n l).1 = 0 → n ≤ (chkL f n l).2 ∧ (chkL f n l).2 ≤ 2000 := by
  intro l
  induction l with
  | nil => intro n hn _; exact ⟨Int.le_refl _, hn⟩
  | cons p l ih =>
    intro n hn h
    by_cases h0 : (f n p).1 = 0
    · rw [chkL_go h0] at h ⊢
      obtain ⟨h1, h2⟩ := hf n p hn h0
      obtain ⟨h3, h4⟩ := ih _ h2 h
      exact ⟨by omega, h4⟩
    · rw [chkL_hit h0] at h; exact absurd h h0
theorem chkP_le : ∀ (k : Nat) (n : Int) (p : Part), n ≤ 2000 → (chkP k n p).1 = 0 → n ≤ (chkP k n p).2 ∧ (chkP k n p).2 ≤ 2000 := by
  intro k
  induction k with
  | zero => intro n p _ h; exact absurd h (show (6 : Int) ≠ 0 by decide)
  | succ k ih =>
    intro n p hn h
    by_cases h1 : 2000 < n + (2 + (p.lines.length : Int))
    · rw [chkP_many h1] at h; exact absurd h (show (6 : Int) ≠ 0 by decide)
    · cases h2 : nameB p.name.data.toList with
      | false => rw [chkP_name h1 h2] at h; exact absurd h (show (8 : Int) ≠ 0 by decide)
      | true =>
        by_cases h3 : firstE lineE p.lines = 0
        · rw [chkP_parts h1 h2 h3] at h ⊢
          obtain ⟨h4, h5⟩ := chkL_le (chkP k) (fun n p => ih n p) p.parts _ (by omega) h
          exact ⟨by omega, h5⟩
        · rw [chkP_line h1 h2 h3] at h; exact absurd h h3
/-- What check answers. -/
def ChkPost (b : Nat) (w : World) (r : Int × Int) (e : Ending) (w' : World) : Prop := e = .returned (errV r.1) ∧ KB b w w' ∧ (r.1 = 0 → NC b r.2 w')
theorem part_box (w : World) (s : ByteArray) (u v : Value) (b : Nat) (hb : b < w.heap.size) (t : TypeId) (wx : World) (h : KB b (w.alloc (.cells #[.string s, u, v] t)) wx) :
    w.heap.size < wx.heap.size ∧ wx.cell? ⟨w.heap.size, 0, none⟩ = some (.string s) ∧ wx.cell? ⟨w.heap.size, 1, none⟩ = some u ∧ wx.cell? ⟨w.heap.size, 2, none⟩ = some v := by
  refine ⟨Nat.lt_of_lt_of_le (by simp) h.1.size, ?_, ?_, ?_⟩
  · exact (h.cell (p := ⟨w.heap.size, 0, none⟩) (by simp; omega) (by simp)).trans (by simp)
  · exact (h.cell (p := ⟨w.heap.size, 1, none⟩) (by simp; omega) (by simp)).trans (by simp)
  · exact (h.cell (p := ⟨w.heap.size, 2, none⟩) (by simp; omega) (by simp)).trans (by simp)
set_option maxRecDepth 100000 in
set_option maxHeartbeats 8000000 in
theorem check_any (B : Nat) : ∀ (k : Nat) (p : Part) (u v : Value) (b : Nat) (n d : Int) (w : World), PartR B k w u v p → d + k = 9 → 1 ≤ d → 0 ≤ n → n ≤ 2000 → B ≤ b → NC b n w → bkP p ≤ 1048576 →
    Calls Tryd.prog 36 #[.agg #[.string p.name, u, v], .int .i64 d, .pointer (some ⟨b, 0, none⟩)] w (ChkPost b w (chkP k n p)) := by
  intro k
  induction k with
  | zero =>
    intro p u v b n d w hR hd hd1 hn0 hn1 hBb hC hz
    obtain ⟨⟨oa, ca, rfl⟩, ob, cb, rfl⟩ := hR.forms
    obtain rfl : d = 9 := by omega
    have HE6 : Hid (errV 6 = .iface 26 (.int .i64 6)) := Lib.hid (errV_ne (by decide))
    have HC := Lib.hid hC
    obtain ⟨s, ls, ps⟩ := p
    simp only [Part.name, Part.lines, Part.parts]
    clear hR hd hn0 hn1 hBb hz hC
    go_enter Tryd.func36, Tryd.ntmps36
    go_wp2_with fail
    go_ret
    exact ⟨by rw [chkP_zero, HE6.out]; rfl, KB.of ((Below.refl _ _).alloc (Nat.le_refl _) _) (Nat.le_of_lt HC.out.2.2), fun h => absurd h (show (6 : Int) ≠ 0 by decide)⟩
  | succ k ih =>
    intro p u v b n d w hR hd hd1 hn0 hn1 hBb hC hz
    obtain ⟨⟨oa, ca, rfl⟩, ob, cb, rfl⟩ := hR.forms
    obtain ⟨M, hM⟩ : ∃ M, p.lines.length = M := ⟨_, rfl⟩
    obtain ⟨Q, hQ⟩ : ∃ Q, p.parts.length = Q := ⟨_, rfl⟩
    rw [hM, hQ] at hR
    rw [hM, hQ]
    obtain ⟨s, hs⟩ : ∃ s, p.name = s := ⟨_, rfl⟩
    rw [hs]
    have HE6 : Hid (errV 6 = .iface 26 (.int .i64 6)) := Lib.hid (errV_ne (by decide))
    have HE8 : Hid (errV 8 = .iface 26 (.int .i64 8)) := Lib.hid (errV_ne (by decide))
    have HR := Lib.hid hR
    have HM := Lib.hid hM
    have HQ := Lib.hid hQ
    have HS := Lib.hid hs
    have HZ := Lib.hid hz
    have HC := Lib.hid hC
    have IH := Lib.hid ih
    have hbl := hC.2.2
    obtain ⟨n0, nf, -⟩ := hC
    have hMb : M ≤ 1048576 := by
      have h1 := sumB_len (f := bkL) (fun x => by unfold bkL; omega) p.lines
      have h2 := hz
      rw [bkP_eq] at h2
      omega
    have SB := Lib.hid (fun wx h => part_box w s (.slice oa M ca) (.slice ob Q cb) b hbl 25 wx h)
    clear hR hM hQ hs hz ih
    go_enter Tryd.func36, Tryd.ntmps36
    go_upto_region 3 with fail
    obtain ⟨wB, hwB⟩ : ∃ x, w.alloc (.cells #[.string s, .slice oa M ca, .slice ob Q cb] 25) = x := ⟨_, rfl⟩
    have HBw : Hid (Below w.heap.size w wB) := Lib.hid (by rw [← hwB]; exact (Below.refl _ _).alloc (Nat.le_refl _) _)
    have HCB := Lib.hid (HC.out.call HBw.out)
    rw [hwB] at SB ⊢
    clear hwB n0 nf
    obtain ⟨n0, nf, nl⟩ := HCB.out
    obtain ⟨l0, c0, c1, c2⟩ := SB.out _ (KB.refl _ _)
    go_cut [] from 16 (fun wx => Hid (KB b wB wx) ∧ Hid (NC b (n + (2 + (M : Int))) wx))
    case first =>
      go_region
      all_goals (go_wp2_with fail; go_meet; exact ⟨Lib.hid ((KB.refl b wB).set _).drew, Lib.hid (HCB.out.put _)⟩)
    case rest =>
      obtain ⟨HK, HN1⟩ := hcut
      have HN1b : Hid (0 ≤ n + (2 + (M : Int))) := Lib.hid (by omega)
      obtain ⟨N1, hN1⟩ : ∃ x, n + (2 + (M : Int)) = x := ⟨_, rfl⟩
      rw [hN1] at HN1 HN1b
      have HNN : Hid (n + (2 + (p.lines.length : Int)) = N1) := Lib.hid (by rw [HM.out]; exact hN1)
      clear hN1 n0 nf nl l0 c0 c1 c2 HCB
      obtain ⟨n0, nf, nl⟩ := HN1.out
      obtain ⟨l0, c0, c1, c2⟩ := SB.out _ HK.out
      have HBb := Lib.hid (Nat.le_of_lt hbl)
      have HKw : Hid (∀ wx, KB b wB wx → KB b w wx) := Lib.hid fun wx h => (KB.of HBw.out (Nat.le_of_lt hbl)).trans h
      have HBB : Hid (∀ wx, KB b wB wx → Below B w wx) := Lib.hid fun wx h => (HKw.out wx h).1.mono hBb
      by_cases hmany : 2000 < N1
      · have HE : Hid (chkP (k + 1) n p = (6, n)) := Lib.hid (chkP_many (by rw [HNN.out]; exact hmany))
        go_wp2_with fail
        go_ret
        exact ⟨by rw [HE.out, HE6.out]; rfl, HKw.out _ HK.out, fun h => by rw [HE.out] at h; exact absurd h (show (6 : Int) ≠ 0 by decide)⟩
      · have hns : s.size ≤ 1048576 := by have := HZ.out; rw [bkP_eq, HS.out] at this; omega
        have CN : Hid (∀ w0, Calls Tryd.prog 57 #[.string s] w0 fun e w' => e = .returned (.bool (nameB s.data.toList)) ∧ Below w0.heap.size w0 w') := Lib.hid fun w0 => name_any s w0 (by omega)
        cases hN : nameB s.data.toList with
        | false =>
          rw [hN] at CN
          have HE : Hid (chkP (k + 1) n p = (8, n)) := Lib.hid (chkP_name (by rw [HNN.out]; exact hmany) (by rw [HS.out]; exact hN))
          clear hN
          go_wp2_with (go_at_call 57; refine (CN.out _).mono ?_; rintro e w1 ⟨rfl, hb⟩; have HK1 := Lib.hid (HK.out.trans (KB.of hb (Nat.le_of_lt nl))); clear hb)
          go_ret
          exact ⟨by rw [HE.out, HE8.out]; rfl, HKw.out _ HK1.out, fun h => by rw [HE.out] at h; exact absurd h (show (8 : Int) ≠ 0 by decide)⟩
        | true =>
          rw [hN] at CN
          have HNb : Hid (nameB p.name.data.toList = true) := Lib.hid (by rw [HS.out]; exact hN)
          have HNM : Hid (¬ 2000 < n + (2 + (p.lines.length : Int))) := Lib.hid (by rw [HNN.out]; exact hmany)
          clear hN
          go_upto_region 8 with (go_at_call 57; refine (CN.out _).mono ?_; rintro e w1 ⟨rfl, hb⟩; have HK1 := Lib.hid (HK.out.trans (KB.of hb (Nat.le_of_lt nl))); have HN2 := Lib.hid (HN1.out.call hb); clear hb)
          clear n0 nf nl l0 c0 c1 c2
          obtain ⟨l0, c0, c1, c2⟩ := SB.out _ HK1.out
          go_wp2_with fail
          clear l0 c0 c1 c2
          go_loopw [38] (fun c wr => ∃ i : Nat, c = .int .i64 (i : Int) ∧ i ≤ M ∧ Hid (firstE lineE p.lines = firstE lineE (p.lines.drop i)) ∧ Hid (KB b wB wr) ∧ Hid (NC b N1 wr)) (fun c _ => M - (intOf c).toNat)
          case atStart => exact ⟨0, rfl, by omega, Lib.hid (by rw [List.drop_zero]), HK1, HN2⟩
          case round =>
            clear HK1 HN2
            obtain ⟨i, rfl, hi, HF, HKr, HNr⟩ := hrel
            obtain ⟨wA, rfl⟩ : ∃ wo : World, wo = wr := ⟨_, rfl⟩
            have HWA := Lib.hid (HBB.out _ HKr.out)
            have hBs : B ≤ wA.heap.size := Nat.le_trans hBb (Nat.le_of_lt HNr.out.2.2)
            by_cases hin : i < M
            · have hil : i < p.lines.length := by rw [HM.out]; exact hin
              obtain ⟨a, rfl, hab, x0, ⟨u, x1, hU⟩, x2⟩ := (HR.out.1.call HWA.out).at hil
              have hfo := firstE_of HF.out ln0 hil
              have hbx : bkL (p.lines.getD i ln0) ≤ 1048576 := Nat.le_trans (sumB_at bkL ln0 p.lines i hil) (by have := HZ.out; rw [bkP_eq] at this; omega)
              obtain ⟨X, hX⟩ : ∃ X, p.lines.getD i ln0 = X := ⟨_, rfl⟩
              rw [hX] at x0 x2 hU hfo hbx
              have hlb := World.block_lt_of_cell? _ _ x0
              have HFO := Lib.hid hfo
              have k1 : (0 : Int) ≤ (i : Int) := by omega
              have k2 : (i : Int) < (M : Int) := by omega
              obtain ⟨x, hx⟩ : ∃ x, lineE X = x := ⟨_, rfl⟩
              have CL : Hid (∀ w0, Below wA.heap.size wA w0 → Calls Tryd.prog 58 #[.agg #[.string X.name, u, .string X.value]] w0 fun e w' => e = .returned (errV x) ∧ Below w0.heap.size w0 w') := Lib.hid fun w0 hb => hx ▸ checkLine_any B X u w0 (Nat.le_trans hBs hb.size) (hU.call (hb.mono hBs)) hbx
              obtain ⟨o1, e1, rfl, -, -⟩ := id hU
              obtain ⟨s1, hs1⟩ : ∃ y, X.name = y := ⟨_, rfl⟩
              obtain ⟨s2, hs2⟩ : ∃ y, X.value = y := ⟨_, rfl⟩
              obtain ⟨m1, hm1⟩ : ∃ y, X.prms.length = y := ⟨_, rfl⟩
              rw [hs1, hs2, hm1] at CL
              rw [hs1] at x0
              rw [hs2] at x2
              rw [hm1] at x1
              have HX := Lib.hid hx
              have HBA := Lib.hid ((Below.refl wA.heap.size wA).alloc (Nat.le_refl _) (.cells #[.string s1, .slice o1 m1 e1, .string s2] 64))
              clear hs1 hs2 hm1 hx hU hX hfo hbx hil
              by_cases hx0 : x = 0
              · subst hx0
                have CLx : Hid (∀ w0, Below wA.heap.size wA w0 → Calls Tryd.prog 58 #[.agg #[.string s1, .slice o1 m1 e1, .string s2]] w0 fun e w' => e = .returned .nilIface ∧ Below w0.heap.size w0 w') := CL
                have HN3 := Lib.hid (HFO.out.2 HX.out)
                clear CL
                go_wp2_with (go_at_call 58; (with_reducible refine (CLx.out _ HBA.out).mono ?_); rintro e w2 ⟨rfl, hb⟩; have HB2 := Lib.hid (thenB HBA.out hb); clear hb)
                go_roundw
                case rel => exact ⟨i + 1, by go_num, by omega, HN3, Lib.hid (HKr.out.trans (KB.of HB2.out (Nat.le_of_lt HNr.out.2.2))), Lib.hid (HNr.out.call HB2.out)⟩
                case measure => simp [intOf]; omega
              · have hev := errV_ne hx0
                rw [hev] at CL
                have HE : Hid (chkP (k + 1) n p = (x, n)) := Lib.hid (by
                  have h1 := HFO.out.1 (by rw [HX.out]; exact hx0)
                  rw [HX.out] at h1
                  rw [chkP_line (by have := HNM.out; omega) HNb.out (by rw [h1]; exact hx0), h1])
                have HEV := Lib.hid hev
                have HX0 := Lib.hid hx0
                clear hev hx0
                go_wp2_with (go_at_call 58; (with_reducible refine (CL.out _ HBA.out).mono ?_); rintro e w2 ⟨rfl, hb⟩; have HB2 := Lib.hid (thenB HBA.out hb); clear hb)
                go_ret
                exact ⟨by rw [HE.out, HEV.out]; rfl, HKw.out _ (HKr.out.trans (KB.of HB2.out (Nat.le_of_lt HNr.out.2.2))), fun h => by rw [HE.out] at h; exact absurd h HX0.out⟩
            · obtain rfl : i = M := by omega
              have HF0 : Hid (firstE lineE p.lines = 0) := Lib.hid (by rw [HF.out]; exact firstE_end _ _ _ (by rw [HM.out]; exact Nat.le_refl _))
              have HCH : Hid (chkP (k + 1) n p = chkL (chkP k) N1 p.parts) := Lib.hid (by rw [chkP_parts (by have := HNM.out; omega) HNb.out HF0.out, HNN.out])
              obtain ⟨l0, c0, c1, c2⟩ := SB.out _ HKr.out
              have hQb : Q ≤ 1048576 := by
                have h1 := bkPs_len p.parts
                have h2 := HZ.out
                have h3 := HQ.out
                rw [bkP_eq] at h2
                omega
              go_wp2_with fail
              clear l0 c0 c1 c2 HF HF0
              go_loopw [51] (fun c wr => ∃ (j : Nat) (N : Int), c = .int .i64 (j : Int) ∧ j ≤ Q ∧ Hid (chkP (k + 1) n p = chkL (chkP k) N (p.parts.drop j)) ∧ Hid (0 ≤ N ∧ N ≤ 2000) ∧ Hid (KB b wB wr) ∧ Hid (NC b N wr)) (fun c _ => Q - (intOf c).toNat)
              case atStart => exact ⟨0, N1, rfl, by omega, Lib.hid (by rw [List.drop_zero]; exact HCH.out), Lib.hid ⟨HN1b.out, by omega⟩, HKr, HNr⟩
              case round =>
                clear HKr HNr HCH HWA hBs
                obtain ⟨j, N, rfl, hj, HG, HNb2, HKr2, HNr2⟩ := hrel
                obtain ⟨wD, rfl⟩ : ∃ wo : World, wo = wr := ⟨_, rfl⟩
                have HWD := Lib.hid (HBB.out _ HKr2.out)
                have hBs : B ≤ wD.heap.size := Nat.le_trans hBb (Nat.le_of_lt HNr2.out.2.2)
                by_cases hjq : j < Q
                · have hjl : j < p.parts.length := by rw [HQ.out]; exact hjq
                  obtain ⟨a, rfl, hab, x0, u2, v2, x1, x2, hU⟩ := (HR.out.call HWD.out).at hjl
                  obtain ⟨X, hX⟩ : ∃ X, p.parts.getD j part0 = X := ⟨_, rfl⟩
                  have hdr : p.parts.drop j = X :: p.parts.drop (j + 1) := by rw [List.drop_eq_getElem_cons hjl, ← hX]; simp [List.getD, hjl]
                  have hbx : bkP X ≤ 1048576 := by rw [← hX]; exact Nat.le_trans (bkPs_at p.parts j hjl) (by have := HZ.out; rw [bkP_eq] at this; omega)
                  rw [hX] at x0 hU
                  have hlb := World.block_lt_of_cell? _ _ x0
                  have k1 : (0 : Int) ≤ (j : Int) := by omega
                  have k2 : (j : Int) < (Q : Int) := by omega
                  obtain ⟨⟨r, N'⟩, hr⟩ : ∃ r, chkP k N X = r := ⟨_, rfl⟩
                  have CK : Hid (∀ w0, Below wD.heap.size wD w0 → Calls Tryd.prog 36 #[.agg #[.string X.name, u2, v2], .int .i64 (d + 1), .pointer (some ⟨b, 0, none⟩)] w0 (ChkPost b w0 (r, N'))) := Lib.hid fun w0 hb => hr ▸ IH.out X u2 v2 b N (d + 1) w0 (hU.call (hb.mono hBs)) (by omega) (by omega) HNb2.out.1 HNb2.out.2 hBb (HNr2.out.call hb) hbx
                  obtain ⟨⟨o1, e1, rfl⟩, o2, e2, rfl⟩ := hU.forms
                  obtain ⟨s1, hs1⟩ : ∃ y, X.name = y := ⟨_, rfl⟩
                  obtain ⟨m1, hm1⟩ : ∃ y, X.lines.length = y := ⟨_, rfl⟩
                  obtain ⟨m2, hm2⟩ : ∃ y, X.parts.length = y := ⟨_, rfl⟩
                  rw [hs1, hm1, hm2] at CK
                  rw [hs1] at x0
                  rw [hm1] at x1
                  rw [hm2] at x2
                  have HRR := Lib.hid hr
                  have HDR := Lib.hid hdr
                  have HBA := Lib.hid ((Below.refl wD.heap.size wD).alloc (Nat.le_refl _) (.cells #[.string s1, .slice o1 m1 e1, .slice o2 m2 e2] 25))
                  clear hs1 hm1 hm2 hr hdr hbx hU hX hjl
                  by_cases hr0 : r = 0
                  · subst hr0
                    have CKx : Hid (∀ w0, Below wD.heap.size wD w0 → Calls Tryd.prog 36 #[.agg #[.string s1, .slice o1 m1 e1, .slice o2 m2 e2], .int .i64 (d + 1), .pointer (some ⟨b, 0, none⟩)] w0 fun e w' => e = .returned .nilIface ∧ KB b w0 w' ∧ NC b N' w') := Lib.hid fun w0 hb => (CK.out w0 hb).mono fun e w' ⟨h1, h2, h3⟩ => ⟨h1, h2, h3 rfl⟩
                    have HG2 : Hid (chkP (k + 1) n p = chkL (chkP k) N' (p.parts.drop (j + 1))) := Lib.hid (by rw [HG.out, HDR.out, chkL_go (by rw [HRR.out]), HRR.out])
                    have HNb3 : Hid (0 ≤ N' ∧ N' ≤ 2000) := Lib.hid (by have h1 := chkP_le k N X HNb2.out.2 (by rw [HRR.out]); rw [HRR.out] at h1; have h2 := HNb2.out.1; exact ⟨by omega, h1.2⟩)
                    clear CK
                    go_wp2_with (go_at_call 36; (with_reducible refine (CKx.out _ HBA.out).mono ?_); rintro e w2 ⟨rfl, hk, hn⟩; have HB2 := Lib.hid ((KB.of HBA.out (Nat.le_of_lt HNr2.out.2.2)).trans hk); have HN4 := Lib.hid hn; clear hk hn)
                    go_roundw
                    case rel => exact ⟨j + 1, N', by go_num, by omega, HG2, HNb3, Lib.hid (HKr2.out.trans HB2.out), HN4⟩
                    case measure => simp [intOf]; omega
                  · have hev := errV_ne hr0
                    have CKx : Hid (∀ w0, Below wD.heap.size wD w0 → Calls Tryd.prog 36 #[.agg #[.string s1, .slice o1 m1 e1, .slice o2 m2 e2], .int .i64 (d + 1), .pointer (some ⟨b, 0, none⟩)] w0 fun e w' => e = .returned (.iface 26 (.int .i64 r)) ∧ KB b w0 w') := Lib.hid fun w0 hb => (CK.out w0 hb).mono fun e w' ⟨h1, h2, h3⟩ => ⟨by rw [h1, hev], h2⟩
                    have HE : Hid (chkP (k + 1) n p = (r, N')) := Lib.hid (by rw [HG.out, HDR.out, chkL_hit (by rw [HRR.out]; exact hr0), HRR.out])
                    have HEV := Lib.hid hev
                    have HX0 := Lib.hid hr0
                    clear hev hr0 CK
                    go_wp2_with (go_at_call 36; (with_reducible refine (CKx.out _ HBA.out).mono ?_); rintro e w2 ⟨rfl, hk⟩; have HB2 := Lib.hid ((KB.of HBA.out (Nat.le_of_lt HNr2.out.2.2)).trans hk); clear hk)
                    go_ret
                    exact ⟨by rw [HE.out, HEV.out]; rfl, HKw.out _ (HKr2.out.trans HB2.out), fun h => by rw [HE.out] at h; exact absurd h HX0.out⟩
                · obtain rfl : j = Q := by omega
                  have HE : Hid (chkP (k + 1) n p = (0, N)) := Lib.hid (by rw [HG.out, List.drop_of_length_le (by rw [HQ.out]; exact Nat.le_refl _)]; rfl)
                  go_wp2_with fail
                  go_ret
                  exact ⟨by rw [HE.out]; rfl, HKw.out _ HKr2.out, fun _ => by rw [HE.out]; exact HNr2.out⟩
end Go.Proofs.YtidgahnamdhflaaDoor
