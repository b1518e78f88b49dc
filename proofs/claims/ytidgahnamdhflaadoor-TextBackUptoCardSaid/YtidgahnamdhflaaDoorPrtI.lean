/- text.write, text.Print: a part as a text. -/
import Derived.Test.YtidgahnamdhflaaDoorPrtH
import Derived.Test.YtidgahnamdhflaaDoorFldC
import Derived.Test.YtidgahnamdhflaaDoorLstD
namespace Go.Proofs.YtidgahnamdhflaaDoor
open Go.RowKit Go.Shelf Fld Prt
/-- So many levels are enough. -/
def fits : Nat → Part → Prop
  | 0, _ => False
  | k + 1, p => ∀ q, q ∈ p.parts → fits k q
theorem chkL_all {f : Int → Part → Int × Int} : ∀ (l : List Part) (n : Int), (chkL f n l).1 = 0 → ∀ q, q ∈ l → ∃ m, (f m q).1 = 0 := by
  intro l
  induction l with
  | nil => intro n _ q h; cases h
  | cons p l ih =>
    intro n h q hq
    by_cases h0 : (f n p).1 = 0
    · rw [chkL_go h0] at h
      rcases List.mem_cons.1 hq with rfl | hq
      · exact ⟨n, h0⟩
      · exact ih _ h q hq
    · rw [chkL_hit h0] at h; exact absurd h h0
theorem chkP_fits : ∀ (k : Nat) (n : Int) (p : Part), (chkP k n p).1 = 0 → fits k p := by
  intro k
  induction k with
  | zero => intro n p h; exact absurd h (show (6 : Int) ≠ 0 by decide)
  | succ k ih =>
    intro n p h q hq
    by_cases h1 : 2000 < n + (2 + (p.lines.length : Int))
    · rw [chkP_many h1] at h; exact absurd h (show (6 : Int) ≠ 0 by decide)
    · cases h2 : nameB p.name.data.toList with
      | false => rw [chkP_name h1 h2] at h; exact absurd h (show (8 : Int) ≠ 0 by decide)
      | true =>
        by_cases h3 : firstE lineE p.lines = 0
        · rw [chkP_parts h1 h2 h3] at h
          obtain ⟨m, hm⟩ := chkL_all p.parts _ h q hq
          exact ih m q hm
        · rw [chkP_line h1 h2 h3] at h; exact absurd h h3
/-- A builder in block b writes; all else stands. -/
def KW (b : Nat) (w w' : World) : Prop := Below b w w' ∧ Kept b w w'
theorem KW.refl (b : Nat) (w : World) : KW b w w := ⟨Below.refl _ _, Lib.OthersKept.refl _ _ _⟩
theorem KW.trans {b : Nat} {w w1 w2 : World} (h : KW b w w1) (h2 : KW b w1 w2) : KW b w w2 := ⟨h.1.trans h2.1, h.2.trans h2.2⟩
theorem KW.of {b : Nat} {w w' : World} (h : Below w.heap.size w w') (hb : b ≤ w.heap.size) : KW b w w' :=
  ⟨h.mono hb, fun k _ hk _ _ => (h.block k (Array.getElem?_eq_some_iff.1 hk).1).trans hk⟩
theorem KW.cell {b : Nat} {w w' : World} (h : KW b w w') {g : Nat} {cs : Array Value} {t : TypeId} {fz : Nat × Nat} (hg : w.heap[g]? = some (.cells cs t fz)) (hne : g ≠ b) (ht : t ≠ 5) (j : Nat) : w'.cell? ⟨g, j, none⟩ = w.cell? ⟨g, j, none⟩ := by
  have h1 := h.2 g _ hg (fun e => hne (Option.some.inj e)) (fun c z e => ht (by injection e))
  exact World.cell?_of_block (w := w) (a := ⟨g, j, none⟩) (h1.trans hg.symm)
theorem Bld.keep {b : Nat} {l : List UInt8} {w w' : World} (h : Bld b l w) (hk : ∀ k o, b ≤ k → w.heap[k]? = some o → w'.heap[k]? = some o) : Bld b l w' := by
  have one : ∀ p, Lib.BuilderAtF 72 5 b b p (Lib.byteCells l) w → Lib.BuilderAtF 72 5 b b p (Lib.byteCells l) w' := by
    rintro p ⟨hB, v, hb, ⟨hl, hown⟩, hne⟩
    refine ⟨hB, v, hk _ _ hB hb, ⟨hl, ?_⟩, hne⟩
    rcases hown with h1 | ⟨g, cap, cur, fz, h1, h2, h3, h4⟩
    · exact .inl h1
    · exact .inr ⟨g, cap, cur, fz, h1, h2, hk _ _ h2 h3, h4⟩
  rcases h with h | h
  · exact .inl (one _ h)
  · exact .inr (one _ h)
theorem Bld.call {b : Nat} {l : List UInt8} {w w' : World} (h : Bld b l w) (hb : Below w.heap.size w w') : Bld b l w' :=
  h.keep fun k _ _ hk => (hb.block k (Array.getElem?_eq_some_iff.1 hk).1).trans hk
theorem writeSk (b : Nat) (l : List UInt8) (s : ByteArray) (w : World) (h : Bld b l w) (hl : l.length + s.size ≤ 140737488355328) (hb : b ≤ w.heap.size) :
    Calls Tryd.prog 49 #[.pointer (some ⟨b, 0, none⟩), .string s] w fun e w' => e = .returned (.tuple #[.int .i64 s.size, .nilIface]) ∧ Bld b (l ++ s.data.toList) w' ∧ KW b w w' := by
  refine (Any.Builder_WriteString_k layWS bxW b b _ s w h (by rw [Lib.byteCells_length]; exact hl) hb).mono ?_
  rintro e w' ⟨rfl, h1, h2, h3⟩
  exact ⟨rfl, by unfold Bld; rw [Lib.byteCells_append]; exact .inr h1, h2, h3⟩
theorem bkPs_succ (l : List Part) (j : Nat) (hj : j < l.length) : bkPs (l.take (j + 1)) = bkPs (l.take j) + bkP (l.getD j part0) := by
  have h : ∀ (l : List Part) (p : Part), bkPs (l ++ [p]) = bkPs l + bkP p := by
    intro l p
    induction l with
    | nil => simp [bkPs]
    | cons a l ih => rw [List.cons_append, bkPs, ih, bkPs]; omega
  rw [List.take_succ_eq_append_getElem hj, h, show l.getD j part0 = l[j] by simp [List.getD, hj]]
theorem pre_bd (p : Part) (i j : Nat) (hi : i ≤ p.lines.length) : (foldL (beginL ++ p.name.data.toList)).length + (linesL p.lines i).length + 30 * bkPs (p.parts.take j) + (foldL (endL ++ p.name.data.toList)).length ≤ 30 * bkP p := by
  have h1 := linesL_len p.lines i hi
  have h2 := sum_le bkL p.lines i
  have h3 := foldL_len (beginL ++ p.name.data.toList)
  have h4 := foldL_len (endL ++ p.name.data.toList)
  have h5 := bkPs_take p.parts j
  rw [bkP_eq]
  simp only [List.length_append, len_sz, beginL, endL, List.length_cons, List.length_nil] at *
  omega
/-- What write answers. -/
def WrPost (b : Nat) (l : List UInt8) (w : World) (e : Ending) (w' : World) : Prop := e = .returned (.tuple #[]) ∧ Bld b l w' ∧ KW b w w'
theorem box3 (b : Nat) (w : World) (s : ByteArray) (u v : Value) (t : TypeId) (ht : t ≠ 5) (hb : b < w.heap.size) (wx : World) (h : KW b (w.alloc (.cells #[.string s, u, v] t)) wx) :
    w.heap.size < wx.heap.size ∧ wx.cell? ⟨w.heap.size, 0, none⟩ = some (.string s) ∧ wx.cell? ⟨w.heap.size, 1, none⟩ = some u ∧ wx.cell? ⟨w.heap.size, 2, none⟩ = some v := by
  have hg : (w.alloc (.cells #[.string s, u, v] t)).heap[w.heap.size]? = some (.cells #[.string s, u, v] t) := by show (w.heap.push _)[w.heap.size]? = _; exact Array.getElem?_push_size
  refine ⟨Nat.lt_of_lt_of_le (by simp) h.1.size, ?_, ?_, ?_⟩
  · exact (h.cell hg (by omega) ht 0).trans (by simp)
  · exact (h.cell hg (by omega) ht 1).trans (by simp)
  · exact (h.cell hg (by omega) ht 2).trans (by simp)
set_option maxRecDepth 100000 in
set_option maxHeartbeats 8000000 in
theorem write_any (B : Nat) : ∀ (k : Nat) (p : Part) (u v : Value) (b : Nat) (l : List UInt8) (w : World), PartR B k w u v p → fits k p → B ≤ b → Bld b l w → bkP p ≤ 1048576 → l.length + 30 * bkP p ≤ 100000000 →
    Calls Tryd.prog 31 #[.pointer (some ⟨b, 0, none⟩), .agg #[.string p.name, u, v]] w (WrPost b (l ++ textP p) w) := by
  intro k
  induction k with
  | zero => intro p u v b l w _ hf; exact absurd hf (by unfold fits; exact id)
  | succ k ih =>
    intro p u v b l w hR hf hBb hl hz hs
    obtain ⟨⟨oa, ca, rfl⟩, ob, cb, rfl⟩ := hR.forms
    obtain ⟨M, hM⟩ : ∃ M, p.lines.length = M := ⟨_, rfl⟩
    obtain ⟨Q, hQ⟩ : ∃ Q, p.parts.length = Q := ⟨_, rfl⟩
    rw [hM, hQ] at hR
    rw [hM, hQ]
    obtain ⟨s, hss⟩ : ∃ s, p.name = s := ⟨_, rfl⟩
    rw [hss]
    have hbl := hl.lt
    have hsb : s.size ≤ 1048576 := by have := hz; rw [bkP_eq, hss] at this; omega
    have hMb : M ≤ 1048576 := by
      have h1 := sumB_len (f := bkL) (fun x => by unfold bkL; omega) p.lines
      have h2 := hz
      rw [bkP_eq] at h2
      omega
    have hQb : Q ≤ 1048576 := by
      have h1 := bkPs_len p.parts
      have h2 := hz
      rw [bkP_eq] at h2
      omega
    have HR := Lib.hid hR
    have HM := Lib.hid hM
    have HQ := Lib.hid hQ
    have HS := Lib.hid hss
    have HZ := Lib.hid hz
    have HSZ := Lib.hid hs
    have HF := Lib.hid hf
    have HL := Lib.hid hl
    have IH := Lib.hid ih
    have SB := Lib.hid (fun wx h => box3 b w s (.slice oa M ca) (.slice ob Q cb) 25 (by decide) hbl wx h)
    have HBw := Lib.hid ((Below.refl w.heap.size w).alloc (Nat.le_refl _) (.cells #[.string s, .slice oa M ca, .slice ob Q cb] 25))
    obtain ⟨T0, hT0⟩ : ∃ T, (⟨#[66, 69, 71, 73, 78, 58]⟩ : ByteArray) ++ s = T := ⟨_, rfl⟩
    have hT0s : T0.size ≤ 1048582 := by rw [← hT0, ByteArray.size_append]; show 6 + s.size ≤ _; omega
    obtain ⟨F0, hF0⟩ : ∃ F : ByteArray, (⟨(foldL T0.data.toList).toArray⟩ : ByteArray) = F := ⟨_, rfl⟩
    have HF0 : Hid (F0.data.toList = foldL (beginL ++ p.name.data.toList)) := Lib.hid (by rw [← hF0, ← hT0, app_list, hss]; rfl)
    have CF0 : Hid (∀ w0, Calls Tryd.prog 50 #[.string T0] w0 fun e w' => e = .returned (.string F0) ∧ Below w0.heap.size w0 w') := Lib.hid fun w0 => hF0 ▸ fold_any T0 w0 (by omega)
    obtain ⟨T9, hT9⟩ : ∃ T, (⟨#[69, 78, 68, 58]⟩ : ByteArray) ++ s = T := ⟨_, rfl⟩
    have hT9s : T9.size ≤ 1048582 := by rw [← hT9, ByteArray.size_append]; show 4 + s.size ≤ _; omega
    obtain ⟨F9, hF9⟩ : ∃ F : ByteArray, (⟨(foldL T9.data.toList).toArray⟩ : ByteArray) = F := ⟨_, rfl⟩
    have HF9 : Hid (F9.data.toList = foldL (endL ++ p.name.data.toList)) := Lib.hid (by rw [← hF9, ← hT9, app_list, hss]; rfl)
    have CF9 : Hid (∀ w0, Calls Tryd.prog 50 #[.string T9] w0 fun e w' => e = .returned (.string F9) ∧ Below w0.heap.size w0 w') := Lib.hid fun w0 => hF9 ▸ fold_any T9 w0 (by omega)
    have hP := fun i j hi => pre_bd p i j hi
    have HP := Lib.hid hP
    clear hP hR hM hQ hss hz hs hf ih hl hF0 hF9 hT0s hT9s
    go_enter Tryd.func31, Tryd.ntmps31
    go_upto_region 1 with fail
    obtain ⟨wB, hwB⟩ : ∃ x, w.alloc (.cells #[.string s, .slice oa M ca, .slice ob Q cb] 25) = x := ⟨_, rfl⟩
    rw [hwB] at SB HBw ⊢
    clear hwB
    have HLB := Lib.hid (HL.out.call HBw.out)
    have HKw : Hid (∀ wx, KW b wB wx → KW b w wx) := Lib.hid fun wx h => (KW.of HBw.out (Nat.le_of_lt hbl)).trans h
    obtain ⟨l0, c0, c1, c2⟩ := SB.out _ (KW.refl _ _)
    go_upto_region 2 with (first
      | (go_at_call 50; refine (CF0.out _).mono ?_; rintro e w1 ⟨rfl, hb⟩; have HL1 := Lib.hid (HLB.out.call hb); have HK1 := Lib.hid (KW.of hb (Nat.le_of_lt HLB.out.lt)); clear hb)
      | (go_at_call 49; refine (writeSk b l F0 _ HL1.out (by have := HP.out 0 0 (by omega); have h2 := HSZ.out; rw [← len_eq, HF0.out]; omega) (Nat.le_of_lt HL1.out.lt)).mono ?_; rintro e w2 ⟨rfl, hB2, hk⟩; have HL2 := Lib.hid hB2; have HK2 := Lib.hid (HK1.out.trans hk); clear hB2 hk))
    clear l0 c0 c1 c2
    have HBB : Hid (∀ wx, KW b wB wx → Below B w wx) := Lib.hid fun wx h => (HKw.out wx h).1.mono hBb
    obtain ⟨l0, c0, c1, c2⟩ := SB.out _ HK2.out
    go_wp2_with fail
    clear l0 c0 c1 c2
    go_loopw [17] (fun c wr => ∃ i : Nat, c = .int .i64 (i : Int) ∧ i ≤ M ∧ Hid (Bld b (l ++ (foldL (beginL ++ p.name.data.toList) ++ linesL p.lines i)) wr) ∧ Hid (KW b wB wr)) (fun c _ => M - (intOf c).toNat)
    case atStart => exact ⟨0, rfl, by omega, Lib.hid (by have := HL2.out; rw [HF0.out] at this; unfold linesL; rw [List.append_nil]; exact this), HK2⟩
    case round =>
      clear HL2 HK2 HLB HL1 HK1
      obtain ⟨i, rfl, hi, HLr, HKr⟩ := hrel
      obtain ⟨wA, rfl⟩ : ∃ wo : World, wo = wr := ⟨_, rfl⟩
      have HWA := Lib.hid (HBB.out _ HKr.out)
      have hBs : B ≤ wA.heap.size := Nat.le_trans hBb (Nat.le_of_lt HLr.out.lt)
      by_cases hin : i < M
      · have hil : i < p.lines.length := by rw [HM.out]; exact hin
        obtain ⟨a, rfl, hab, x0, ⟨u, x1, hU⟩, x2⟩ := (HR.out.1.call HWA.out).at hil
        have hls : linesL p.lines (i + 1) = linesL p.lines i ++ foldL (lineL (p.lines.getD i ln0)) := rfl
        have hbx : bkL (p.lines.getD i ln0) ≤ 1048576 := Nat.le_trans (sumB_at bkL ln0 p.lines i hil) (by have := HZ.out; rw [bkP_eq] at this; omega)
        have hpb := HP.out (i + 1) 0 (by omega)
        rw [hls, List.length_append] at hpb
        obtain ⟨X, hX⟩ : ∃ X, p.lines.getD i ln0 = X := ⟨_, rfl⟩
        rw [hX] at x0 x2 hU hls hbx hpb
        have hlb := World.block_lt_of_cell? _ _ x0
        have k1 : (0 : Int) ≤ (i : Int) := by omega
        have k2 : (i : Int) < (M : Int) := by omega
        obtain ⟨T1, hT1⟩ : ∃ T : ByteArray, (⟨(lineL X).toArray⟩ : ByteArray) = T := ⟨_, rfl⟩
        have hTl : T1.data.toList = lineL X := by rw [← hT1]
        have hTs : T1.size ≤ 3145728 := by have := lineL_len X; rw [← hTl, len_eq] at this; omega
        have CL : Hid (∀ w0, Below wA.heap.size wA w0 → Calls Tryd.prog 51 #[.agg #[.string X.name, u, .string X.value]] w0 fun e w' => e = .returned (.string T1) ∧ Below w0.heap.size w0 w') := Lib.hid fun w0 hb => hT1 ▸ line_any B X u w0 (Nat.le_trans hBs hb.size) (hU.call (hb.mono hBs)) hbx
        obtain ⟨F1, hF1⟩ : ∃ F : ByteArray, (⟨(foldL T1.data.toList).toArray⟩ : ByteArray) = F := ⟨_, rfl⟩
        have HF1 : Hid (F1.data.toList = foldL (lineL X)) := Lib.hid (by rw [← hF1, hTl])
        have CF : Hid (∀ w0, Calls Tryd.prog 50 #[.string T1] w0 fun e w' => e = .returned (.string F1) ∧ Below w0.heap.size w0 w') := Lib.hid fun w0 => hF1 ▸ fold_any T1 w0 (by omega)
        obtain ⟨o1, e1, rfl, -, -⟩ := id hU
        obtain ⟨s1, hs1⟩ : ∃ y, X.name = y := ⟨_, rfl⟩
        obtain ⟨s2, hs2⟩ : ∃ y, X.value = y := ⟨_, rfl⟩
        obtain ⟨m1, hm1⟩ : ∃ y, X.prms.length = y := ⟨_, rfl⟩
        rw [hs1, hs2, hm1] at CL
        rw [hs1] at x0
        rw [hs2] at x2
        rw [hm1] at x1
        have HLS := Lib.hid hls
        have HPB := Lib.hid hpb
        have HBA := Lib.hid ((Below.refl wA.heap.size wA).alloc (Nat.le_refl _) (.cells #[.string s1, .slice o1 m1 e1, .string s2] 64))
        clear hs1 hs2 hm1 hU hX hbx hil hls hpb hT1 hTl hTs hF1
        go_wp2_with (first
          | (go_at_call 51; (with_reducible refine (CL.out _ HBA.out).mono ?_); rintro e w2 ⟨rfl, hb⟩; have HB2 := Lib.hid (thenB HBA.out hb); clear hb)
          | (go_at_call 50; refine (CF.out _).mono ?_; rintro e w3 ⟨rfl, hb⟩; have HB3 := Lib.hid (thenB HB2.out hb); have HL3 := Lib.hid (HLr.out.call HB3.out); clear hb)
          | (go_at_call 49; refine (writeSk b _ F1 _ HL3.out (by have h1 := HPB.out; have h2 := HSZ.out; rw [← len_eq, HF1.out, List.length_append, List.length_append]; omega) (Nat.le_of_lt HL3.out.lt)).mono ?_; rintro e w4 ⟨rfl, hB2, hk⟩; have HL4 := Lib.hid hB2; have HK4 := Lib.hid ((HKr.out.trans (KW.of HB3.out (Nat.le_of_lt HLr.out.lt))).trans hk); clear hB2 hk))
        go_roundw
        case rel => exact ⟨i + 1, by go_num, by omega, Lib.hid (by have := HL4.out; rw [HF1.out] at this; rw [HLS.out]; simp only [List.append_assoc] at this ⊢; exact this), HK4⟩
        case measure => simp [intOf]; omega
      · obtain rfl : i = M := by omega
        obtain ⟨l0, c0, c1, c2⟩ := SB.out _ HKr.out
        go_wp2_with fail
        clear l0 c0 c1 c2 HWA hBs
        go_loopw [30] (fun c wr => ∃ j : Nat, c = .int .i64 (j : Int) ∧ j ≤ Q ∧ Hid (Bld b (l ++ (foldL (beginL ++ p.name.data.toList) ++ linesL p.lines i ++ textPs (p.parts.take j))) wr) ∧ Hid (KW b wB wr)) (fun c _ => Q - (intOf c).toNat)
        case atStart => exact ⟨0, rfl, by omega, Lib.hid (by rw [List.take_zero]; unfold textPs; rw [List.append_nil]; exact HLr.out), HKr⟩
        case round =>
          clear HLr HKr
          obtain ⟨j, rfl, hj, HLr, HKr⟩ := hrel
          obtain ⟨wD, rfl⟩ : ∃ wo : World, wo = wr := ⟨_, rfl⟩
          have HWD := Lib.hid (HBB.out _ HKr.out)
          have hBs : B ≤ wD.heap.size := Nat.le_trans hBb (Nat.le_of_lt HLr.out.lt)
          by_cases hjq : j < Q
          · have hjl : j < p.parts.length := by rw [HQ.out]; exact hjq
            obtain ⟨a, rfl, hab, x0, u2, v2, x1, x2, hU⟩ := (HR.out.call HWD.out).at hjl
            have hts := textPs_take p.parts j hjl
            have hbs := bkPs_succ p.parts j hjl
            have hfi : fits k (p.parts.getD j part0) := HF.out _ (by rw [show p.parts.getD j part0 = p.parts[j] by simp [List.getD, hjl]]; exact List.getElem_mem hjl)
            have hbx : bkP (p.parts.getD j part0) ≤ 1048576 := Nat.le_trans (bkPs_at p.parts j hjl) (by have := HZ.out; rw [bkP_eq] at this; omega)
            obtain ⟨X, hX⟩ : ∃ X, p.parts.getD j part0 = X := ⟨_, rfl⟩
            rw [hX] at x0 hU hts hbs hfi hbx
            have hlb := World.block_lt_of_cell? _ _ x0
            have k1 : (0 : Int) ≤ (j : Int) := by omega
            have k2 : (j : Int) < (Q : Int) := by omega
            have hlen : (l ++ (foldL (beginL ++ p.name.data.toList) ++ linesL p.lines i ++ textPs (p.parts.take j))).length + 30 * bkP X ≤ 100000000 := by
              have h1 := HP.out i (j + 1) (by rw [HM.out]; exact Nat.le_refl _)
              have h2 := HSZ.out
              have h3 := textPs_len (p.parts.take j)
              simp only [List.length_append] at *
              omega
            have CW : Hid (∀ w0, Below wD.heap.size wD w0 → Calls Tryd.prog 31 #[.pointer (some ⟨b, 0, none⟩), .agg #[.string X.name, u2, v2]] w0 (WrPost b (l ++ (foldL (beginL ++ p.name.data.toList) ++ linesL p.lines i ++ textPs (p.parts.take j)) ++ textP X) w0)) := Lib.hid fun w0 hb => IH.out X u2 v2 b _ w0 (hU.call (hb.mono hBs)) hfi hBb (HLr.out.call hb) hbx hlen
            obtain ⟨⟨o1, e1, rfl⟩, o2, e2, rfl⟩ := hU.forms
            obtain ⟨s1, hs1⟩ : ∃ y, X.name = y := ⟨_, rfl⟩
            obtain ⟨m1, hm1⟩ : ∃ y, X.lines.length = y := ⟨_, rfl⟩
            obtain ⟨m2, hm2⟩ : ∃ y, X.parts.length = y := ⟨_, rfl⟩
            rw [hs1, hm1, hm2] at CW
            rw [hs1] at x0
            rw [hm1] at x1
            rw [hm2] at x2
            have HTS := Lib.hid hts
            have HBA := Lib.hid ((Below.refl wD.heap.size wD).alloc (Nat.le_refl _) (.cells #[.string s1, .slice o1 m1 e1, .slice o2 m2 e2] 25))
            clear hs1 hm1 hm2 hbx hU hX hjl hts hbs hfi hlen
            go_wp2_with (go_at_call 31; (with_reducible refine (CW.out _ HBA.out).mono ?_); rintro e w2 ⟨rfl, hB2, hk⟩; have HL4 := Lib.hid hB2; have HK4 := Lib.hid ((HKr.out.trans (KW.of HBA.out (Nat.le_of_lt HLr.out.lt))).trans hk); clear hB2 hk)
            go_roundw
            case rel => exact ⟨j + 1, by go_num, by omega, Lib.hid (by have := HL4.out; rw [HTS.out]; simp only [List.append_assoc] at this ⊢; exact this), HK4⟩
            case measure => simp [intOf]; omega
          · obtain rfl : j = Q := by omega
            obtain ⟨l0, c0, c1, c2⟩ := SB.out _ HKr.out
            have HTE : Hid (l ++ textP p = l ++ (foldL (beginL ++ p.name.data.toList) ++ linesL p.lines i ++ textPs (p.parts.take j)) ++ foldL (endL ++ p.name.data.toList)) := Lib.hid (by rw [textP_eq, HM.out, List.take_of_length_le (by rw [HQ.out]; exact Nat.le_refl _)]; simp only [List.append_assoc])
            go_wp2_with (first
              | (go_at_call 50; refine (CF9.out _).mono ?_; rintro e w1 ⟨rfl, hb⟩; have HB1 := Lib.hid hb; have HL1 := Lib.hid (HLr.out.call hb); clear hb)
              | (go_at_call 49; refine (writeSk b _ F9 _ HL1.out (by have h1 := HP.out i j (by rw [HM.out]; exact Nat.le_refl _); have h2 := HSZ.out; have h3 := textPs_len (p.parts.take j); rw [← len_eq, HF9.out]; simp only [List.length_append] at *; omega) (Nat.le_of_lt HL1.out.lt)).mono ?_; rintro e w4 ⟨rfl, hB2, hk⟩; have HL4 := Lib.hid hB2; have HK4 := Lib.hid ((HKr.out.trans (KW.of HB1.out (Nat.le_of_lt HLr.out.lt))).trans hk); clear hB2 hk))
            exact bodyPost_end (v := .tuple #[]) (by simp [results, Tryd.results31, go_sem]) rfl ⟨rfl, by rw [HTE.out]; have := HL4.out; rw [HF9.out] at this; exact this, HKw.out _ HK4.out⟩
end Go.Proofs.YtidgahnamdhflaaDoor
