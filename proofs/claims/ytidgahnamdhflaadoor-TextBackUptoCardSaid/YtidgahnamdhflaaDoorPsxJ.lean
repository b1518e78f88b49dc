/- (*reader).part. -/
import Derived.Test.YtidgahnamdhflaaDoorPsxI
import Derived.Deep.RegionHeld3
import Derived.BigQuiet
import Derived.Deep.LoopGhost
namespace Go.Proofs.YtidgahnamdhflaaDoor
open Go.RowKit Go.Shelf Fld Prt Psx
theorem headE_out {lines : List (List UInt8)} {a : Nat} (h : ¬ a < lines.length) : headE lines a = 13 := by unfold headE; rw [if_neg h]
theorem headE_ln {lines : List (List UInt8)} {a : Nat} (h : a < lines.length) (h1 : (lnP (lines.getD a [])).1 ≠ 0) : headE lines a = (lnP (lines.getD a [])).1 := by unfold headE; rw [if_pos h, if_pos h1]
theorem headE_form {lines : List (List UInt8)} {a : Nat} (h : a < lines.length) (h1 : (lnP (lines.getD a [])).1 = 0) (h2 : (lnP (lines.getD a [])).2.name.data.toList ≠ [66, 69, 71, 73, 78] ∨ (lnP (lines.getD a [])).2.prms ≠ []) : headE lines a = 5 := by unfold headE; rw [if_pos h, if_neg (fun e => e h1), if_pos h2]
theorem headE_name {lines : List (List UInt8)} {a : Nat} (h : a < lines.length) (h1 : (lnP (lines.getD a [])).1 = 0) (h2 : (lnP (lines.getD a [])).2.name.data.toList = [66, 69, 71, 73, 78]) (h3 : (lnP (lines.getD a [])).2.prms = []) (h4 : nameB (greatL (lnP (lines.getD a [])).2.value.data.toList) = false) : headE lines a = 8 := by
  unfold headE; rw [if_pos h, if_neg (fun e => e h1), if_neg (fun e => e.elim (fun e => e h2) (fun e => e h3)), if_pos h4]
theorem headE_ok {lines : List (List UInt8)} {a : Nat} (h : a < lines.length) (h1 : (lnP (lines.getD a [])).1 = 0) (h2 : (lnP (lines.getD a [])).2.name.data.toList = [66, 69, 71, 73, 78]) (h3 : (lnP (lines.getD a [])).2.prms = []) (h4 : nameB (greatL (lnP (lines.getD a [])).2.value.data.toList) = true) : headE lines a = 0 := by
  unfold headE; rw [if_pos h, if_neg (fun e => e h1), if_neg (fun e => e.elim (fun e => e h2) (fun e => e h3)), if_neg (by rw [h4]; decide)]
/-- parseLine at a line that is read. -/
theorem parse_ok {s : ByteArray} {L : Ln} (hs : s.size ≤ 1048576) (h : lnP s.data.toList = (0, L)) (w : World) : Calls Tryd.prog 62 #[.string s] w fun e w' => (∃ oa cap, e = .returned (.tuple #[.agg #[.string L.name, .slice oa L.prms.length cap, .string L.value], .nilIface]) ∧ QPrm (fun b => w.heap.size ≤ b ∧ b < w'.heap.size) w' (.slice oa L.prms.length cap) L.prms) ∧ Below w.heap.size w w' :=
  (parse_any s w hs).mono fun e w' g => by
    obtain ⟨u, h1, h2⟩ := g.1 (by rw [h])
    rw [h] at h1 h2
    obtain ⟨oa, cap, rfl⟩ := h2.form
    exact ⟨⟨oa, cap, h1, h2⟩, g.2.2⟩
theorem parse_bad {s : ByteArray} {E : Int} (hs : s.size ≤ 1048576) (h : (lnP s.data.toList).1 = E) (h0 : E ≠ 0) (w : World) : Calls Tryd.prog 62 #[.string s] w fun e w' => (∃ nm oa n c vl, e = .returned (.tuple #[.agg #[.string nm, .slice oa n c, .string vl], .iface 26 (.int .i64 E)])) ∧ Below w.heap.size w w' :=
  (parse_any s w hs).mono fun e w' g => by
    have h1 := g.2.1 (by rw [h]; exact h0)
    rw [h] at h1
    exact ⟨h1, g.2.2⟩
/-- The contract of part, k levels ahead of the deepest. -/
def PartC (rb lo : Nat) (vL : Value) (lines : List (List UInt8)) (k : Nat) : Prop :=
  ∀ (a : Nat) (w : World), Rd rb lo vL lines a w → a ≤ lines.length → Calls Tryd.prog 40 #[.pointer (some ⟨rb, 0, none⟩), .int .i64 (9 - (k : Int))] w (PtPost k rb lo vL lines (partP lines k a) w)
theorem prmsP_len : ∀ (f : Nat) (acc : List Prm) (s : List UInt8), (prmsP f acc s).2.2.length ≤ s.length := by
  intro f
  induction f with
  | zero => intro acc s; exact Nat.zero_le _
  | succ f ih =>
    intro acc s
    by_cases h : s.head? = some 59
    · by_cases h2 : (prmP s.tail).1 = 0
      · rw [prmsP_go h h2]
        have h3 := (prmP_ok h2).2.1
        have h4 := ih (acc ++ [(prmP s.tail).2.1]) (prmP s.tail).2.2
        simp only [List.length_tail] at h3
        omega
      · unfold prmsP; rw [if_pos h]; simp only; rw [if_pos h2]; exact Nat.zero_le _
    · rw [prmsP_end h]; exact Nat.le_refl _
theorem lnP_val (l : List UInt8) : (lnP l).2.value.data.toList.length ≤ l.length := by
  unfold lnP
  split
  · exact Nat.zero_le _
  · rename_i i hi
    simp only
    split
    · exact Nat.zero_le _
    · split
      · exact Nat.zero_le _
      · split
        · exact Nat.zero_le _
        · have h := prmsP_len (l.length + 1) [] (l.drop i)
          simp only [List.length_drop] at h
          show (bs _).data.toList.length ≤ _
          rw [bs_list, List.length_tail]
          omega
/-- parseLine, in one. -/
theorem parse_un {s : ByteArray} {E : Int} {L : Ln} (hs : s.size ≤ 1048576) (h : lnP s.data.toList = (E, L)) (w : World) : Calls Tryd.prog 62 #[.string s] w fun e w' => (∃ nm oa n c vl, e = .returned (.tuple #[.agg #[.string nm, .slice oa n c, .string vl], errV E]) ∧ (E = 0 → nm = L.name ∧ vl = L.value ∧ n = L.prms.length ∧ QPrm (fun b => w.heap.size ≤ b ∧ b < w'.heap.size) w' (.slice oa n c) L.prms)) ∧ Below w.heap.size w w' :=
  (parse_any s w hs).mono fun e w' g => by
    refine ⟨?_, g.2.2⟩
    by_cases h0 : E = 0
    · subst h0
      obtain ⟨u, h1, h2⟩ := g.1 (by rw [h])
      rw [h] at h1 h2
      obtain ⟨oa, cap, rfl⟩ := h2.form
      exact ⟨_, oa, _, cap, _, h1, fun _ => ⟨rfl, rfl, rfl, h2⟩⟩
    · obtain ⟨nm, oa, n, c, vl, h1⟩ := g.2.1 (by rw [h]; exact h0)
      rw [h] at h1
      exact ⟨nm, oa, n, c, vl, by rw [h1, errV_ne h0], fun h => absurd h h0⟩
theorem ln_early {W w1 : World} {z : Nat} (hz : W.heap.size = z) (hb : Below (W.alloc (.cells #[.string ⟨#[]⟩, .slice none 0 0, .string ⟨#[]⟩] 64)).heap.size (W.alloc (.cells #[.string ⟨#[]⟩, .slice none 0 0, .string ⟨#[]⟩] 64)) w1) : z < w1.heap.size ∧ w1.cell? ⟨z, 0, none⟩ = some (.string ⟨#[]⟩) ∧ w1.frozen? ⟨z, 0, none⟩ = false ∧ w1.cell? ⟨z, 1, none⟩ = some (.slice none 0 0) ∧ w1.frozen? ⟨z, 1, none⟩ = false ∧ w1.cell? ⟨z, 2, none⟩ = some (.string ⟨#[]⟩) ∧ w1.frozen? ⟨z, 2, none⟩ = false := by
  subst hz; exact (ln_zero hb).2
/-- A line's block that was made ahead of its call, filled. -/
theorem ln_filled {z : Nat} {x y : World} {c0 c1 c2 : Value} (h : z < x.heap.size ∧ x.cell? ⟨z, 0, none⟩ = some (.string ⟨#[]⟩) ∧ x.frozen? ⟨z, 0, none⟩ = false ∧ x.cell? ⟨z, 1, none⟩ = some (.slice none 0 0) ∧ x.frozen? ⟨z, 1, none⟩ = false ∧ x.cell? ⟨z, 2, none⟩ = some (.string ⟨#[]⟩) ∧ x.frozen? ⟨z, 2, none⟩ = false) (hy : y = ((x.setCell ⟨z, 0, none⟩ c0).setCell ⟨z, 1, none⟩ c1).setCell ⟨z, 2, none⟩ c2) : (y.cell? ⟨z, 0, none⟩ = some c0 ∧ y.cell? ⟨z, 1, none⟩ = some c1 ∧ y.cell? ⟨z, 2, none⟩ = some c2) ∧ z < y.heap.size ∧ x.grownBy y (some z) ∧ Below z x y := by
  subst hy
  obtain ⟨a0, a1, a2, a3, a4, a5, a6⟩ := h
  have c0' : (x.setCell ⟨z, 0, none⟩ c0).cell? ⟨z, 0, none⟩ = some c0 := World.cell?_setCell_same _ _ _ a1
  have c1' : (x.setCell ⟨z, 0, none⟩ c0).cell? ⟨z, 1, none⟩ = some (.slice none 0 0) := by rw [World.cell?_setCell_other _ _ _ _ (by simp)]; exact a3
  have c2' : ((x.setCell ⟨z, 0, none⟩ c0).setCell ⟨z, 1, none⟩ c1).cell? ⟨z, 2, none⟩ = some (.string ⟨#[]⟩) := by rw [World.cell?_setCell_other _ _ _ _ (by simp), World.cell?_setCell_other _ _ _ _ (by simp)]; exact a5
  refine ⟨⟨?_, ?_, World.cell?_setCell_same _ _ _ c2'⟩, by simpa [World.setCell] using a0, grown_then (grown_then (grown_set _ _ _) (grown_set _ _ _) (fun k hk => .inr hk)) (grown_set _ _ _) (fun k hk => .inr hk), (((Below.refl _ _).setCell (p := ⟨z, 0, none⟩) (Nat.le_refl _) _).setCell (p := ⟨z, 1, none⟩) (Nat.le_refl _) _).setCell (p := ⟨z, 2, none⟩) (Nat.le_refl _) _⟩
  · rw [World.cell?_setCell_other _ _ _ _ (by simp), World.cell?_setCell_other _ _ _ _ (by simp)]; exact c0'
  · rw [World.cell?_setCell_other _ _ _ _ (by simp)]; exact World.cell?_setCell_same _ _ _ c1'
theorem line_info : (Tryd.prog.info? 64).map (fun i => (i.zero, i.size, i.bytes)) = some (some (.agg #[.string ⟨#[]⟩, .slice none 0 0, .string ⟨#[]⟩]), 3, 56) := by kernel_rfl
theorem apart_info : (Tryd.prog.info? 25).map (fun i => (i.zero, i.size, i.bytes)) = some (some (.agg #[.string ⟨#[]⟩, .slice none 0 0, .slice none 0 0]), 3, 64) := by kernel_rfl
theorem RowB.more {k X0 M : Nat} {u v : Value} {ls : List Ln} {l : List (Part × Value × Value)} {x2 x3 : World} {a : Part × Value × Value} {g cap : Nat} (h : RowB k X0 M u v ls l x2) (hown : World.ownsRow x3 M 25 3 (.slice (some ⟨g, 0, none⟩) (l.length + 1) cap) (l.length + 1) (l.flatMap cPart ++ cPart a)) (hg : x2.grownBy x3 v.ownBlock) (hat : v.ownBlock = some g ∨ g = x2.heap.size) (ha : qPart k (SetB M v x2) x2 a) : RowB k X0 M u (.slice (some ⟨g, 0, none⟩) (l.length + 1) cap) ls (l ++ [a]) x3 :=
  ⟨h.1, Nat.le_trans h.2.1 hg.size, h.2.2.1.keep (fun b hb => ⟨hb, hg.block b (by have := h.2.1; omega) (fun e => by have := (World.ownsRow.lt h.2.2.2.1 b e.symm).1; omega)⟩), h.2.2.2.more (qPart_keep k) hown hg hat ha⟩
theorem QPart.form {S : Nat → Prop} {k : Nat} {w : World} {u v : Value} {p : Part} (h : QPart S k w u v p) : (∃ oa n cap, u = .slice oa n cap) ∧ ∃ oa n cap, v = .slice oa n cap := by
  cases k with
  | zero => obtain ⟨⟨oa, cap, h1⟩, ob, c2, h2⟩ := h; exact ⟨⟨oa, _, cap, h1⟩, ob, _, c2, h2⟩
  | succ k => obtain ⟨h0, ob, c2, h2, _⟩ := h; obtain ⟨oa, cap, h1⟩ := h0.form; exact ⟨⟨oa, _, cap, h1⟩, ob, _, c2, h2⟩
set_option maxRecDepth 100000 in
set_option maxHeartbeats 16000000 in
theorem part_at {rb lo : Nat} {vL : Value} {lines : List (List UInt8)} (hn : lines.length ≤ 1048576) (hl : ∀ i, i < lines.length → (lines.getD i []).length ≤ 1048576) (k : Nat) (hk : k ≤ 8) (ih : ∀ j, k = j + 1 → PartC rb lo vL lines j) : PartC rb lo vL lines k := by
  intro a w hR ha
  have HP := Lib.hid (PtZ.start hR)
  have z0 : (a : Int) ≤ (lines.length : Int) := by omega
  by_cases hal : a < lines.length
  · obtain ⟨lb, cap, rfl, l1, l2, hc⟩ := hR.line hal
    obtain ⟨r0, r1, r2, r3, -, -⟩ := hR
    obtain ⟨s, hs⟩ : ∃ s, bs (lines.getD a []) = s := ⟨_, rfl⟩
    have hsl : s.data.toList = lines.getD a [] := by rw [← hs, bs_list]
    have hss : s.size ≤ 1048576 := by rw [← len_eq, hsl]; exact hl a hal
    rw [hs] at hc
    have z1 : (a : Int) < (lines.length : Int) := by omega
    have z2 : ((a : Int) == (lines.length : Int)) = false := beq_eq_false_iff_ne.2 (by omega)
    have z3 : (0 : Int) ≤ (a : Int) := by omega
    obtain ⟨E, L, hEL⟩ : ∃ E L, lnP (lines.getD a []) = (E, L) := ⟨_, _, rfl⟩
    have CL : Hid (∀ w0, Calls Tryd.prog 62 #[.string s] w0 fun e w' => (∃ nm oa n c vl, e = .returned (.tuple #[.agg #[.string nm, .slice oa n c, .string vl], errV E]) ∧ (E = 0 → nm = L.name ∧ vl = L.value ∧ n = L.prms.length ∧ QPrm (fun b => w0.heap.size ≤ b ∧ b < w'.heap.size) w' (.slice oa n c) L.prms)) ∧ Below w0.heap.size w0 w') := Lib.hid fun w0 => parse_un hss (by rw [hsl, hEL]) w0
    have SR : Hid (∀ wx, Below w.heap.size w wx → wx.cell? ⟨rb, 0, none⟩ = some (.slice (some ⟨lb, 0, none⟩) lines.length cap) ∧ wx.cell? ⟨rb, 1, none⟩ = some (.int .i64 (a : Int)) ∧ wx.cell? ⟨lb, a, none⟩ = some (.string s)) := Lib.hid fun wx hb => ⟨(hb.cell (p := ⟨rb, 0, none⟩) r0).trans r1, (hb.cell (p := ⟨rb, 1, none⟩) r0).trans r2, (hb.cell (p := ⟨lb, a, none⟩) l1).trans hc⟩
    have HEL := Lib.hid hEL
    clear hEL hs hsl
    go_enter Tryd.func40, Tryd.ntmps40
    go_wp2_with fail
    go_quiet (fail)
    go_upto_region 3 with fail
    have HPn := Lib.hid (HP.out.call (below_drewN (Below.refl _ _) (nq + 1)))
    have HX := Lib.hid HPn.out.1
    go_cut [6, 7] from 25 to 38 (fun p6 e7 wx => ∃ (z : Nat) (nm vl : ByteArray) (oa : Option Addr) (n c : Nat), p6 = .pointer (some ⟨z, 0, none⟩) ∧ e7 = errV E ∧ Hid (wx.cell? ⟨z, 0, none⟩ = some (.string nm) ∧ wx.cell? ⟨z, 1, none⟩ = some (.slice oa n c) ∧ wx.cell? ⟨z, 2, none⟩ = some (.string vl)) ∧ Hid (z < wx.heap.size) ∧ Hid (PtZ rb lo (.slice (some ⟨lb, 0, none⟩) lines.length cap) lines w a wx) ∧ Hid (E = 0 → nm = L.name ∧ vl = L.value ∧ n = L.prms.length))
    case first =>
      go_region_held3 (fun w' => w'.cell? ⟨rb, 0, none⟩ = some (.slice (some ⟨lb, 0, none⟩) lines.length cap) ∧ w'.cell? ⟨rb, 1, none⟩ = some (.int .i64 (a : Int)) ∧ w'.cell? ⟨lb, a, none⟩ = some (.string s)) (first | exact SR.out _ HX.out | exact SR.out _ HX1.out | exact SR.out _ (HX1.out.alloc HX1.out.size _) | exact SR.out _ (((HX1.out.setCell (p := ⟨w.heap.size + 1, 0, none⟩) (Nat.le_succ _) _).setCell (p := ⟨w.heap.size + 1, 1, none⟩) (Nat.le_succ _) _).setCell (p := ⟨w.heap.size + 1, 2, none⟩) (Nat.le_succ _) _) | exact SR.out _ (HX.out.alloc HX.out.size _))
        (first | (go_at_call 62; refine (CL.out _).mono ?_; rintro e w1 ⟨⟨n1, oa, n, c, vl, rfl, hok⟩, hb⟩; have HK := Lib.hid hok; clear hok; first | (have HX1 : Hid (Below w.heap.size w w1) := Lib.hid (thenB HX.out hb); have HB1 := Lib.hid hb; clear hb) | (have HX1 : Hid (Below w.heap.size w w1) := Lib.hid (thenB (HX.out.alloc HX.out.size _) hb); have hz := ln_early (z := w.heap.size + 1) (by simp) hb; have HZ := Lib.hid hz; obtain ⟨e0, e1, e2, e3, e4, e5, e6⟩ := hz; have HB1 := Lib.hid hb; clear hb)))
      · go_wp2_with fail
        go_meet
        exact ⟨w1.heap.size, n1, vl, oa, n, c, rfl, rfl, Lib.hid ⟨by simp, by simp, by simp⟩, Lib.hid (by simp), Lib.hid ((HPn.out.call HB1.out).call ((Below.refl _ _).alloc (Nat.le_refl _) _)), Lib.hid fun h => ⟨(HK.out h).1, (HK.out h).2.1, (HK.out h).2.2.1⟩⟩
      · go_wp2_with fail
        go_meet
        have hf := ln_filled HZ.out (c0 := .string n1) (c1 := .slice oa n c) (c2 := .string vl) rfl
        exact ⟨w.heap.size + 1, n1, vl, oa, n, c, rfl, rfl, Lib.hid hf.1, Lib.hid hf.2.1, Lib.hid (HPn.out.call ((thenB ((Below.refl _ _).alloc (Nat.le_refl _) _) HB1.out).trans (hf.2.2.2.mono (by simp)))), Lib.hid fun h => ⟨(HK.out h).1, (HK.out h).2.1, (HK.out h).2.2.1⟩⟩
    case rest =>
      obtain ⟨z, nm, vl, oa, n, c, rfl, rfl, HC, HZ, HPZ, HK⟩ := hcut
      clear HX HPn HP SR CL hc
      have hz := HPZ.out.2.2.1
      obtain ⟨a1, a2, a3, a4, a5, a6⟩ := hz
      have f0 := HPZ.out.2.1
      have f1 := HZ.out
      obtain ⟨c0, c1, c2⟩ := HC.out
      by_cases hE0 : E = 0
      · subst hE0
        obtain ⟨rfl, rfl, rfl⟩ := HK.out rfl
        rw [show errV 0 = .nilIface from rfl]
        have HBAD : Hid (∀ x : Int, headE lines a = x → x ≠ 0 → partP lines k a = ⟨x, part0, a⟩) := Lib.hid fun x h h0 => by rw [partP_bad (k := k) (show headE lines a ≠ 0 by rw [h]; exact h0), h]
        have hL0 : (lnP (lines.getD a [])).1 = 0 := by rw [HEL.out]
        have hLL : (lnP (lines.getD a [])).2 = L := by rw [HEL.out]
        have hLv : L.value.size ≤ 1048576 := by
          have h := lnP_val (lines.getD a [])
          rw [hLL, len_eq] at h
          exact Nat.le_trans h (hl a hal)
        by_cases hnm : L.name.data.toList = [66, 69, 71, 73, 78]
        · have hn2 : L.name.toList = [66, 69, 71, 73, 78] := by rw [Lib.toList_data]; exact hnm
          by_cases hpr : L.prms = []
          · have hp1 : (L.prms.length : Int) = 0 := by rw [hpr]; rfl
            have hp2 : ¬ (0 : Int) < (L.prms.length : Int) := by omega
            obtain ⟨G, hG⟩ : ∃ G, bs (greatL L.value.data.toList) = G := ⟨_, rfl⟩
            have CG : Hid (∀ w0, Calls Tryd.prog 63 #[.string L.value] w0 fun e w' => e = .returned (.string G) ∧ Below w0.heap.size w0 w') := Lib.hid fun w0 => by
              have h := great_any L.value w0 (Nat.le_trans hLv (by decide))
              rw [hG] at h
              exact h
            have hGl : G.data.toList = greatL L.value.data.toList := by rw [← hG]; rfl
            have hGs : G.size ≤ 1048576 := by rw [← len_eq, hGl, greatL_len, len_eq]; exact hLv
            have CN : Hid (∀ w0, Calls Tryd.prog 57 #[.string G] w0 fun e w' => e = .returned (.bool (nameB G.data.toList)) ∧ Below w0.heap.size w0 w') := Lib.hid fun w0 => name_any G w0 (by omega)
            cases hN : nameB G.data.toList with
            | false =>
              rw [hN] at CN
              have HR := Lib.hid (HBAD.out 8 (headE_name hal hL0 (by rw [hLL]; exact hnm) (by rw [hLL]; exact hpr) (by rw [hLL, ← hGl]; exact hN)) (by decide))
              clear hL0 hLL hnm hpr hG hGl hN
              go_wp2_with (first
                | (go_at_call 63; refine (CG.out _).mono ?_; rintro e w1 ⟨rfl, hb⟩; have HP1 := Lib.hid (HPZ.out.call hb); clear hb)
                | (go_at_call 57; refine (CN.out _).mono ?_; rintro e w2 ⟨rfl, hb⟩; have HP2 := Lib.hid (HP1.out.call hb); clear hb a1 a2 a3 a4 a5 a6 f0; have hz := HP2.out.2.2.1; obtain ⟨a1, a2, a3, a4, a5, a6⟩ := hz; have f0 := HP2.out.2.1))
              have HQ := Lib.hid (HP2.out.2.2.1.fill (c0 := .string ⟨#[]⟩) (c1 := .slice none 0 0) (c2 := .slice none 0 0) rfl)
              have hq1 := HQ.out.1
              have hq2 := HQ.out.2.1
              have hq3 := HQ.out.2.2.1
              exact bodyPost_ret (v := .tuple #[.agg #[.string ⟨#[]⟩, .slice none 0 0, .slice none 0 0], .iface 26 (.int .i64 8)]) (by simp [results, Tryd.results40, go_sem, hq1, hq2, hq3]) rfl (HP2.out.bad HQ.out.2.2.2 (by rw [HR.out]) (by decide) (by rw [HR.out]))
            | true =>
              rw [hN] at CN
              have HE0 := Lib.hid (headE_ok hal hL0 (by rw [hLL]; exact hnm) (by rw [hLL]; exact hpr) (by rw [hLL, ← hGl]; exact hN))
              have HG : Hid (bs (greatL (lnP (lines.getD a [])).2.value.data.toList) = G) := Lib.hid (by rw [hLL]; exact hG)
              clear hL0 hLL hnm hpr hG hGl hN
              cases k with
              | zero =>
                have HR := Lib.hid (partP_zero HE0.out)
                go_wp2_with (first
                  | (go_at_call 63; refine (CG.out _).mono ?_; rintro e w1 ⟨rfl, hb⟩; have HP1 := Lib.hid (HPZ.out.call hb); clear hb)
                  | (go_at_call 57; refine (CN.out _).mono ?_; rintro e w2 ⟨rfl, hb⟩; have HP2 := Lib.hid (HP1.out.call hb); clear hb a1 a2 a3 a4 a5 a6 f0; have hz := HP2.out.2.2.1; obtain ⟨a1, a2, a3, a4, a5, a6⟩ := hz; have f0 := HP2.out.2.1))
                have HQ := Lib.hid (HP2.out.2.2.1.fill (c0 := .string ⟨#[]⟩) (c1 := .slice none 0 0) (c2 := .slice none 0 0) rfl)
                have hq1 := HQ.out.1
                have hq2 := HQ.out.2.1
                have hq3 := HQ.out.2.2.1
                exact bodyPost_ret (v := .tuple #[.agg #[.string ⟨#[]⟩, .slice none 0 0, .slice none 0 0], .iface 26 (.int .i64 6)]) (by simp [results, Tryd.results40, go_sem, hq1, hq2, hq3]) rfl (HP2.out.bad HQ.out.2.2.2 (by rw [HR.out]) (by decide) (by rw [HR.out]))
              | succ j =>
                have HV : Hid (partP lines (j + 1) a = loopP lines (partP lines j) G (lines.length + 1) [] [] (a + 1)) := Lib.hid (by rw [partP_succ HE0.out, HG.out])
                have IH : Hid (PartC rb lo (.slice (some ⟨lb, 0, none⟩) lines.length cap) lines j) := Lib.hid (ih j rfl)
                obtain ⟨D, hD⟩ : ∃ D : Int, 9 - ((j + 1 : Nat) : Int) = D := ⟨_, rfl⟩
                rw [hD]
                have d1 : ¬ 8 < D := by omega
                have d2 : (0 : Int) ≤ D := by omega
                have hDj : Hid (9 - (j : Int) = D + 1) := Lib.hid (by omega)
                have wD : IntKind.i64.wrap (D + 1) = D + 1 := IntWalk.i64_in _ (by omega)
                have wa : IntKind.i64.wrap ((a : Int) + 1) = (a : Int) + 1 := IntWalk.i64_in _ (by omega)
                clear hD ih HBAD HE0 HG
                go_wp2_with (first
                  | (go_at_call 63; refine (CG.out _).mono ?_; rintro e w1 ⟨rfl, hb⟩; have HP1 := Lib.hid (HPZ.out.call hb); have HC1 := Lib.hid hb; have y0 := Nat.lt_of_lt_of_le HZ.out hb.size; have y1 := (hb.cell (p := ⟨z, 0, none⟩) HZ.out).trans HC.out.1; have y2 := (hb.cell (p := ⟨z, 1, none⟩) HZ.out).trans HC.out.2.1; have y3 := (hb.cell (p := ⟨z, 2, none⟩) HZ.out).trans HC.out.2.2; clear hb)
                  | (go_at_call 57; refine (CN.out _).mono ?_; rintro e w2 ⟨rfl, hb⟩; have HP2 := Lib.hid (HP1.out.call hb); have x3 := (hb.cell (p := ⟨z, 2, none⟩) y0).trans y3; have x0 := Nat.lt_of_lt_of_le y0 hb.size; clear hb y0 y1 y2 y3 a1 a2 a3 a4 a5 a6 f0 c0 c1 c2)
                  | (go_at_call 63; refine (CG.out _).mono ?_; rintro e w3 ⟨rfl, hb⟩; have HP3 := Lib.hid (HP2.out.call hb); clear hb x0 x3; have hz := HP3.out.2.2.2.1; obtain ⟨r0, r1, r2, r3, -, -⟩ := hz; have f0 := HP3.out.2.1))
                have HPS := Lib.hid (by have h := (HP3.out.go G).at (a + 1); rw [World.setCell_alloc_past (hn := r0)] at h; exact h)
                obtain ⟨X0, hX0⟩ : ∃ X, w3.heap.size = X := ⟨_, rfl⟩
                rw [hX0] at HPS ⊢
                clear HP3 HP2 HP1 HPZ HC HZ CG CN HC1
                go_loopg [] lines.length (fun gk wr => ∃ (a2 f : Nat) (u v : Value) (ls : List Ln) (ps : List Part), a2 ≤ lines.length ∧ lines.length ≤ a2 + gk ∧ lines.length < a2 + f ∧ ls.length + ps.length ≤ a2 ∧ Hid (PtS rb lo (.slice (some ⟨lb, 0, none⟩) lines.length cap) lines w X0 G u v a2 wr) ∧ Hid (Rows2 j X0 u v ls ps wr) ∧ Hid (partP lines (j + 1) a = loopP lines (partP lines j) G f ls ps a2))
                case atStart => exact ⟨a + 1, lines.length + 1, .slice none 0 0, .slice none 0 0, [], [], by omega, by omega, by omega, Nat.zero_le _, HPS, Lib.hid (.inl ⟨rfl, rfl, [], rfl, RowQ.nil⟩), HV⟩
                case round =>
                  clear HPS HV hX0
                  obtain ⟨a2, f, u, v, ls, ps, ha2, hgk, hf, hsum, HP, HRW, HVV⟩ := hrel
                  obtain ⟨wA, rfl⟩ : ∃ wo : World, wo = wr := ⟨_, rfl⟩
                  have hform := HRW.out.form
                  obtain ⟨⟨ou, cu, rfl⟩, ov, cv, rfl⟩ := hform
                  have hfa := HP.out
                  obtain ⟨⟨q0, -⟩, -, ⟨q1, q2⟩, ⟨a1, a2', a3, a4, a5, a6⟩, ⟨b1, b2, b3, b4, b5⟩, ⟨r0, r1, r2, r3, -, -⟩⟩ := hfa
                  by_cases hal2 : a2 < lines.length
                  · have hln := HP.out.2.2.2.2.2.line hal2
                    obtain ⟨lb2, cap2, hv, l1', l2', hc⟩ := hln
                    have hv' : lb = lb2 ∧ cap = cap2 := by simpa using hv
                    obtain ⟨rfl, rfl⟩ := hv'
                    clear hv
                    obtain ⟨s2, hs2⟩ : ∃ s, bs (lines.getD a2 []) = s := ⟨_, rfl⟩
                    have hsl2 : s2.data.toList = lines.getD a2 [] := by rw [← hs2, bs_list]
                    have hss2 : s2.size ≤ 1048576 := by rw [← len_eq, hsl2]; exact hl a2 hal2
                    rw [hs2] at hc
                    have t1 : (a2 : Int) < (lines.length : Int) := by omega
                    have t3 : (0 : Int) ≤ (a2 : Int) := by omega
                    obtain ⟨E2, L2, hEL2⟩ : ∃ E L, lnP (lines.getD a2 []) = (E, L) := ⟨_, _, rfl⟩
                    have CL : Hid (∀ w0, Calls Tryd.prog 62 #[.string s2] w0 fun e w' => (∃ nm oa n c vl, e = .returned (.tuple #[.agg #[.string nm, .slice oa n c, .string vl], errV E2]) ∧ (E2 = 0 → nm = L2.name ∧ vl = L2.value ∧ n = L2.prms.length ∧ QPrm (fun b => w0.heap.size ≤ b ∧ b < w'.heap.size) w' (.slice oa n c) L2.prms)) ∧ Below w0.heap.size w0 w') := Lib.hid fun w0 => parse_un hss2 (by rw [hsl2, hEL2]) w0
                    have SR : Hid (∀ wx, Below wA.heap.size wA wx → wx.cell? ⟨rb, 0, none⟩ = some (.slice (some ⟨lb, 0, none⟩) lines.length cap) ∧ wx.cell? ⟨rb, 1, none⟩ = some (.int .i64 (a2 : Int)) ∧ wx.cell? ⟨lb, a2, none⟩ = some (.string s2)) := Lib.hid fun wx hb => ⟨(hb.cell (p := ⟨rb, 0, none⟩) r0).trans r1, (hb.cell (p := ⟨rb, 1, none⟩) r0).trans r2, (hb.cell (p := ⟨lb, a2, none⟩) l1').trans hc⟩
                    have HEL2 := Lib.hid hEL2
                    have hLv2 : L2.value.size ≤ 1048576 := by
                      have h := lnP_val (lines.getD a2 [])
                      rw [hEL2, len_eq] at h
                      exact Nat.le_trans h (hl a2 hal2)
                    clear hEL2 hs2 hsl2
                    go_wp2_with fail
                    go_quiet (fail)
                    go_upto_region 15 with fail
                    have HX := Lib.hid (below_drewN (Below.refl wA.heap.size wA) (nq + 1))
                    go_cut [9, 10] from 90 to 103 (fun p6 e7 wx => ∃ (z : Nat) (nm vl : ByteArray) (oa : Option Addr) (n c : Nat), p6 = .pointer (some ⟨z, 0, none⟩) ∧ e7 = errV E2 ∧ Hid (wx.cell? ⟨z, 0, none⟩ = some (.string nm) ∧ wx.cell? ⟨z, 1, none⟩ = some (.slice oa n c) ∧ wx.cell? ⟨z, 2, none⟩ = some (.string vl)) ∧ Hid (z < wx.heap.size) ∧ Hid (Below wA.heap.size wA wx) ∧ Hid (E2 = 0 → nm = L2.name ∧ vl = L2.value ∧ n = L2.prms.length ∧ QPrm (fun b => wA.heap.size ≤ b ∧ b < wx.heap.size) wx (.slice oa n c) L2.prms))
                    case first =>
                      go_region_held3 (fun w' => w'.cell? ⟨rb, 0, none⟩ = some (.slice (some ⟨lb, 0, none⟩) lines.length cap) ∧ w'.cell? ⟨rb, 1, none⟩ = some (.int .i64 (a2 : Int)) ∧ w'.cell? ⟨lb, a2, none⟩ = some (.string s2)) (first | exact SR.out _ HX.out | exact SR.out _ HX1.out | exact SR.out _ (HX1.out.alloc HX1.out.size _) | exact SR.out _ (((HX1.out.setCell (p := ⟨wA.heap.size, 0, none⟩) (Nat.le_refl _) _).setCell (p := ⟨wA.heap.size, 1, none⟩) (Nat.le_refl _) _).setCell (p := ⟨wA.heap.size, 2, none⟩) (Nat.le_refl _) _) | exact SR.out _ (HX.out.alloc HX.out.size _))
                        (first | (go_at_call 62; refine (CL.out _).mono ?_; rintro e w1 ⟨⟨n1, oa, n, c, vl, rfl, hok⟩, hb⟩; have HK := Lib.hid hok; clear hok; first | (have HX1 : Hid (Below wA.heap.size wA w1) := Lib.hid (thenB HX.out hb); have HB1 := Lib.hid hb; clear hb) | (have HX1 : Hid (Below wA.heap.size wA w1) := Lib.hid (thenB (HX.out.alloc HX.out.size _) hb); have hz := ln_early (z := wA.heap.size) (by simp) hb; have HZ := Lib.hid hz; obtain ⟨e0, e1, e2, e3, e4, e5, e6⟩ := hz; have HB1 := Lib.hid hb; clear hb)))
                      · go_wp2_with fail
                        go_meet
                        exact ⟨w1.heap.size, n1, vl, oa, n, c, rfl, rfl, Lib.hid ⟨by simp, by simp, by simp⟩, Lib.hid (by simp), Lib.hid (thenB HX1.out ((Below.refl _ _).alloc (Nat.le_refl _) _)), Lib.hid fun h => ⟨(HK.out h).1, (HK.out h).2.1, (HK.out h).2.2.1, (HK.out h).2.2.2.keep fun b hb => ⟨⟨by have := hb.1; simpa using this, Nat.lt_of_lt_of_le hb.2 (by simp)⟩, ((Below.refl w1.heap.size w1).alloc (Nat.le_refl _) _).block b hb.2⟩⟩⟩
                      · go_wp2_with fail
                        go_meet
                        have hf := ln_filled HZ.out (c0 := .string n1) (c1 := .slice oa n c) (c2 := .string vl) rfl
                        exact ⟨wA.heap.size, n1, vl, oa, n, c, rfl, rfl, Lib.hid hf.1, Lib.hid hf.2.1, Lib.hid (HX1.out.trans hf.2.2.2), Lib.hid fun h => ⟨(HK.out h).1, (HK.out h).2.1, (HK.out h).2.2.1, (HK.out h).2.2.2.keep fun b hb => ⟨⟨by have := hb.1; simp at this; omega, Nat.lt_of_lt_of_le hb.2 hf.2.2.1.size⟩, hf.2.2.1.block b hb.2 (fun e => by have := hb.1; simp at this; injection e with e; omega)⟩⟩⟩
                    case rest =>
                      obtain ⟨z, nm2, vl2, oa2, n2, c2', rfl, rfl, HC, HZ, HBx, HK⟩ := hcut
                      have HPx := Lib.hid (HP.out.call HBx.out)
                      have HRx := Lib.hid (HRW.out.grown (grown_call HBx.out (some rb)) (by omega))
                      clear HX SR CL hc a1 a2' a3 a4 a5 a6 b1 b2 b3 b4 b5 r0 r1 r2 r3 q2 l1'
                      have hfa := HPx.out
                      obtain ⟨-, -, ⟨-, q2⟩, ⟨a1, a2', a3, a4, a5, a6⟩, ⟨b1, b2, b3, b4, b5⟩, ⟨r0, r1, r2, r3, -, -⟩⟩ := hfa
                      have f1 := HZ.out
                      have f0 : w.heap.size < wc.heap.size := by omega
                      obtain ⟨c0, c1, c2⟩ := HC.out
                      obtain ⟨f', rfl⟩ : ∃ f', f = f' + 1 := ⟨f - 1, by omega⟩
                      have hV := HVV.out
                      rw [loopP_step hal2, HEL2.out] at hV
                      simp only at hV
                      by_cases hE0 : E2 = 0
                      · subst hE0
                        obtain ⟨rfl, rfl, rfl, hqp⟩ := HK.out rfl
                        have HQP := Lib.hid hqp
                        rw [if_neg (fun h => h rfl)] at hV
                        rw [show errV 0 = .nilIface from rfl]
                        clear hqp
                        by_cases hnm : L2.name.data.toList = [66, 69, 71, 73, 78]
                        · have hn2 : (L2.name.toList == [66, 69, 71, 73, 78]) = true := by rw [Lib.toList_data, hnm]; rfl
                          rw [if_pos hnm] at hV
                          have hcall := IH.out a2 wc HPx.out.2.2.2.2.2 ha2
                          rw [hDj.out] at hcall
                          have hpos := partP_pos j a2 ha2
                          obtain ⟨R5, hR5⟩ : ∃ r, partP lines j a2 = r := ⟨_, rfl⟩
                          rw [hR5] at hcall hpos hV
                          have CK := Lib.hid hcall
                          clear hcall hR5 hnm
                          by_cases hge : R5.err = 0
                          · rw [if_neg (fun h => h hge)] at hV
                            have HV2 := Lib.hid hV
                            have hps5 := hpos.2.2 hge
                            have hpl5 := hpos.2.1
                            have HGE := Lib.hid hge
                            have hB0 := HRx.out.toB q2
                            obtain ⟨M, lq, hlq, hB⟩ := hB0
                            have hlen : lq.length ≤ ps.length := by rw [← hlq, List.length_map]; exact Nat.le_refl _
                            have HB := Lib.hid hB
                            have HLQ := Lib.hid hlq
                            clear hV hge hpos hB hlq
                            obtain ⟨il, hi0, hz0, hz1, hz2⟩ := info_parts3 apart_info
                            go_wp2_with (first
                              | (go_at_call 40; refine CK.out.mono ?_; rintro e w5 ⟨hRd, hg5, hok, -⟩; obtain ⟨u5, v5, rfl, hq5⟩ := hok HGE.out; have HG5 := Lib.hid hg5; have HQ5 := Lib.hid hq5; have HP5 := Lib.hid (HPx.out.step hg5 hRd); have HB5 := Lib.hid (HB.out.grown hg5 (by omega)); have hfm := hq5.form; obtain ⟨⟨ou5, n5, cu5, rfl⟩, ov5, m5, cv5, rfl⟩ := hfm; clear hok hRd hg5 hq5 a1 a2' a3 a4 a5 a6 b1 b2 b3 b4 b5 r0 r1 r2 r3 q2 f0 f1 c0 c1 c2; have hfa := HP5.out; obtain ⟨-, -, ⟨-, q2⟩, ⟨a1, a2', a3, a4, a5, a6⟩, ⟨b1, b2, b3, b4, b5⟩, ⟨r0, r1, r2, r3, -, -⟩⟩ := hfa)
                              | (at_builtin; refine wpList_append_lies _ rfl _ _ 23 rfl M 25 il (.agg #[.string ⟨#[]⟩, .slice none 0 0, .slice none 0 0]) 3 64 Tryd.underlying23 hi0 hz0 hz1 hz2 rfl (by decide) _ lq.length (lq.flatMap cPart) rfl ((HB5.out.2.2.2.1.alloc _).alloc _) _ 1 1 [.string R5.part.name, .slice ou5 n5 cu5, .slice ov5 m5 cv5] rfl rfl (cells_at (by simp) _ _) (by simp [Value.oneCell']) (by decide) (by unfold maxLen; omega) (by omega) (by have := HB5.out.2.1; simp; omega) _ rfl ?_; intro g5 c5 w6 hown hgrow hat _; have hb6 : Below w5.heap.size w5 ((w5.alloc (.cells #[.string R5.part.name, .slice ou5 n5 cu5, .slice ov5 m5 cv5] 25)).alloc (.cells #[.string R5.part.name, .slice ou5 n5 cu5, .slice ov5 m5 cv5] 25)) := ((Below.refl _ _).alloc (Nat.le_refl _) _).alloc (by simp) _; have hp6 := (HP5.out.call hb6).app hgrow (fun k hk => by have := (World.ownsRow.lt HB5.out.2.2.2.1 k hk).1; have := HB5.out.1; omega); have hr6 := (HB5.out.grown (grown_call hb6 (some rb)) (by omega)).more (a := (R5.part, .slice ou5 n5 cu5, .slice ov5 m5 cv5)) hown hgrow hat (HQ5.out.keep fun b hb => ⟨⟨by have := HB.out.2.1; omega, Nat.lt_of_lt_of_le hb.2 hb6.size, fun e => by have := (World.ownsRow.lt HB.out.2.2.2.1 b e).2; omega⟩, hb6.block b hb.2⟩); have HM6 := Lib.hid (hp6.putV (.slice (some ⟨g5, 0, none⟩) (lq.length + 1) c5)); have HR6 := Lib.hid (hr6.grown (grown_set w6 ⟨X0, 2, none⟩ (.slice (some ⟨g5, 0, none⟩) (lq.length + 1) c5)) (Nat.le_refl _)); obtain ⟨-, -, ⟨-, y5⟩, -, ⟨-, -, -, y6, y7⟩, ⟨s0, s1, s2, s3, -, -⟩⟩ := hp6; clear hr6 hown hgrow hat hb6))
                            go_roundg (lines.length - R5.pos)
                            case measure => omega
                            case rel => exact ⟨R5.pos, f', _, _, ls, ps ++ [R5.part], hpl5, by omega, by omega, by rw [List.length_append, List.length_singleton]; omega, HM6, Lib.hid (.inr ⟨by simp, M, lq ++ [(R5.part, .slice ou5 n5 cu5, .slice ov5 m5 cv5)], by rw [List.map_append, HLQ.out]; rfl, HR6.out⟩), HV2⟩
                          · rw [if_pos hge] at hV
                            have HR := Lib.hid hV
                            have HGE := Lib.hid hge
                            clear hV hge hpos
                            go_wp2_with (go_at_call 40; refine CK.out.mono ?_; rintro e w5 ⟨hRd, hg5, -, hno⟩; obtain ⟨n5, oa5, m5, k5, ob5, m6, k6, rfl⟩ := hno HGE.out; have HP5 := Lib.hid (HPx.out.step hg5 hRd); clear hno hRd hg5 a1 a2' a3 a4 a5 a6 b1 b2 b3 b4 b5 r0 r1 r2 r3 q2 f0 f1 c0 c1 c2; have hfa := HP5.out; obtain ⟨-, -, ⟨-, q2⟩, ⟨a1, a2', a3, a4, a5, a6⟩, ⟨b1, b2, b3, b4, b5⟩, ⟨r0, r1, r2, r3, -, -⟩⟩ := hfa; have f0 : w.heap.size < w5.heap.size := by omega)
                            have HQ := Lib.hid (HP5.out.2.2.2.1.fill (c0 := .string G) (c1 := .slice ou ls.length cu) (c2 := .slice ov ps.length cv) rfl)
                            have hsz : w.heap.size < (((w5.setCell ⟨w.heap.size, 0, none⟩ (.string G)).setCell ⟨w.heap.size, 1, none⟩ (.slice ou ls.length cu)).setCell ⟨w.heap.size, 2, none⟩ (.slice ov ps.length cv)).heap.size := by simpa [World.setCell] using f0
                            have hbA := fun o => (Below.refl (((w5.setCell ⟨w.heap.size, 0, none⟩ (.string G)).setCell ⟨w.heap.size, 1, none⟩ (.slice ou ls.length cu)).setCell ⟨w.heap.size, 2, none⟩ (.slice ov ps.length cv)).heap.size (((w5.setCell ⟨w.heap.size, 0, none⟩ (.string G)).setCell ⟨w.heap.size, 1, none⟩ (.slice ou ls.length cu)).setCell ⟨w.heap.size, 2, none⟩ (.slice ov ps.length cv))).alloc (Nat.le_refl _) o
                            have hq1 := fun o => ((hbA o).cell (p := ⟨w.heap.size, 0, none⟩) hsz).trans HQ.out.1
                            have hq2 := fun o => ((hbA o).cell (p := ⟨w.heap.size, 1, none⟩) hsz).trans HQ.out.2.1
                            have hq3 := fun o => ((hbA o).cell (p := ⟨w.heap.size, 2, none⟩) hsz).trans HQ.out.2.2.1
                            exact bodyPost_ret (v := .tuple #[.agg #[.string G, .slice ou ls.length cu, .slice ov ps.length cv], .iface 26 (.int .i64 R5.err)]) (by simp [results, Tryd.results40, go_sem, hq1, hq2, hq3]) rfl (HP5.out.bad (grown_then HQ.out.2.2.2 (grown_call (hbA _) (some w.heap.size)) (fun k hk => .inr hk)) (by rw [HR.out]) HGE.out (by rw [HR.out]))
                        · have hn2 : (L2.name.toList == [66, 69, 71, 73, 78]) = false := beq_eq_false_iff_ne.2 (by rw [Lib.toList_data]; exact hnm)
                          rw [if_neg hnm] at hV
                          by_cases hne : L2.name.data.toList = [69, 78, 68]
                          · have hn3 : (L2.name.toList == [69, 78, 68]) = true := by rw [Lib.toList_data, hne]; rfl
                            rw [if_pos hne] at hV
                            by_cases hpr : L2.prms = []
                            · have hp3 : (L2.prms.length : Int) = 0 := by rw [hpr]; rfl
                              have hp4 : ¬ (0 : Int) < (L2.prms.length : Int) := by omega
                              have hp5 : decide ((0 : Int) < (L2.prms.length : Int)) = false := decide_eq_false hp4
                              obtain ⟨G2, hG2⟩ : ∃ G, bs (greatL L2.value.data.toList) = G := ⟨_, rfl⟩
                              have CG2 : Hid (∀ w0, Calls Tryd.prog 63 #[.string L2.value] w0 fun e w' => e = .returned (.string G2) ∧ Below w0.heap.size w0 w') := Lib.hid fun w0 => by
                                have h := great_any L2.value w0 (Nat.le_trans hLv2 (by decide))
                                rw [hG2] at h
                                exact h
                              have hGl2 : greatL L2.value.data.toList = G2.data.toList := by rw [← hG2]; rfl
                              rw [hGl2] at hV
                              have S2 : Hid (∀ wx, Below wc.heap.size wc wx → wx.cell? ⟨z, 1, none⟩ = some (.slice oa2 L2.prms.length c2') ∧ wx.cell? ⟨z, 2, none⟩ = some (.string L2.value) ∧ wx.cell? ⟨X0, 0, none⟩ = some (.string G)) := Lib.hid fun wx hb => ⟨(hb.cell (p := ⟨z, 1, none⟩) f1).trans c1, (hb.cell (p := ⟨z, 2, none⟩) f1).trans c2, (hb.cell (p := ⟨X0, 0, none⟩) q2).trans b1⟩
                              have HV2 := Lib.hid hV
                              have HPR := Lib.hid hpr
                              have wa2 : IntKind.i64.wrap ((a2 : Int) + 1) = (a2 : Int) + 1 := IntWalk.i64_in _ (by omega)
                              clear hV hnm hne hG2 hGl2 hpr
                              go_upto_region 26 with fail
                              have HX := Lib.hid (below_drew (Below.refl wc.heap.size wc))
                              go_region_held3 (fun w' => w'.cell? ⟨z, 1, none⟩ = some (.slice oa2 L2.prms.length c2') ∧ w'.cell? ⟨z, 2, none⟩ = some (.string L2.value) ∧ w'.cell? ⟨X0, 0, none⟩ = some (.string G)) (first | exact S2.out _ HX.out | exact S2.out _ HX1.out)
                                (first | (go_at_call 63; refine (CG2.out _).mono ?_; rintro e w1 ⟨rfl, hb⟩; have HX1 : Hid (Below wc.heap.size wc w1) := Lib.hid (thenB HX.out hb); clear hb))
                              have HP1 := Lib.hid (HPx.out.call HX1.out)
                              have HR1 := Lib.hid (HRx.out.grown (grown_call HX1.out (some rb)) (by omega))
                              clear a1 a2' a3 a4 a5 a6 b1 b2 b3 b4 b5 r0 r1 r2 r3 q2 f0 f1 c0 c1 c2
                              have hfa := HP1.out
                              obtain ⟨-, -, ⟨-, q2⟩, ⟨a1, a2', a3, a4, a5, a6⟩, ⟨b1, b2, b3, b4, b5⟩, ⟨r0, r1, r2, r3, -, -⟩⟩ := hfa
                              have f0 : w.heap.size < w1.heap.size := by omega
                              have x1 : ¬ rb = X0 := by omega
                              have x2 : ¬ X0 = rb := by omega
                              have x3 : ¬ rb = w.heap.size := by omega
                              have x4 : ¬ w.heap.size = rb := by omega
                              by_cases hgg : G2.data.toList = G.data.toList
                              · obtain rfl : G2 = G := str_eq hgg
                                have HR : Hid (partP lines (j + 1) a = ⟨0, .mk G2 ls ps, a2 + 1⟩) := Lib.hid (HV2.out.trans (if_neg (fun h => h.elim (fun h => h HPR.out) (fun h => h rfl))))
                                clear hgg
                                go_wp2_with fail
                                · rename_i h; exact absurd h (by simp)
                                have HPe := Lib.hid (show PtS rb lo (.slice (some ⟨lb, 0, none⟩) lines.length cap) lines w X0 G2 (.slice ou ls.length cu) (.slice ov ps.length cv) (a2 + 1) (w1.setCell ⟨rb, 1, none⟩ (.int .i64 ((a2 : Int) + 1))) from HP1.out.at (a2 + 1))
                                have HQ := Lib.hid (HPe.out.2.2.2.1.fill (c0 := .string G2) (c1 := .slice ou ls.length cu) (c2 := .slice ov ps.length cv) rfl)
                                have hq1 := HQ.out.1
                                have hq2 := HQ.out.2.1
                                have hq3 := HQ.out.2.2.1
                                exact bodyPost_ret (v := .tuple #[.agg #[.string G2, .slice ou ls.length cu, .slice ov ps.length cv], .nilIface]) (by simp [results, Tryd.results40, go_sem, hq1, hq2, hq3]) rfl (HPe.out.good (HR1.out.grown (grown_set _ _ _) (by show rb ≤ X0; omega)) HQ.out.2.2.2 HR.out)
                              · have HR : Hid (partP lines (j + 1) a = ⟨5, part0, a2⟩) := Lib.hid (HV2.out.trans (if_pos (.inr hgg)))
                                have g1 : ¬ G2.toList = G.toList := by rw [Lib.toList_data, Lib.toList_data]; exact hgg
                                have g2 : (G2.toList == G.toList) = false := beq_eq_false_iff_ne.2 g1
                                clear hgg
                                go_wp2_with fail
                                · have HQ := Lib.hid (HP1.out.2.2.2.1.fill (c0 := .string G) (c1 := .slice ou ls.length cu) (c2 := .slice ov ps.length cv) rfl)
                                  have hq1 := HQ.out.1
                                  have hq2 := HQ.out.2.1
                                  have hq3 := HQ.out.2.2.1
                                  exact bodyPost_ret (v := .tuple #[.agg #[.string G, .slice ou ls.length cu, .slice ov ps.length cv], .iface 26 (.int .i64 5)]) (by simp [results, Tryd.results40, go_sem, hq1, hq2, hq3]) rfl (HP1.out.bad HQ.out.2.2.2 (by rw [HR.out]) (by decide) (by rw [HR.out]))
                                · rename_i h; exact absurd h (by simp [g1])
                            · have hp3 : (0 : Int) < (L2.prms.length : Int) := by have := List.length_pos_iff.2 hpr; omega
                              have hp5 : decide ((0 : Int) < (L2.prms.length : Int)) = true := decide_eq_true hp3
                              have hp6 : 0 < L2.prms.length := List.length_pos_iff.2 hpr
                              have hp7 : ¬ L2.prms.length = 0 := by omega
                              have hp8 : ¬ L2.prms = [] := hpr
                              have HR : Hid (partP lines (j + 1) a = ⟨5, part0, a2⟩) := Lib.hid (hV.trans (if_pos (.inl hpr)))
                              clear hV hnm hne hpr
                              have S2 : Hid (∀ wx, Below wc.heap.size wc wx → wx.cell? ⟨z, 1, none⟩ = some (.slice oa2 L2.prms.length c2') ∧ wx.cell? ⟨z, 2, none⟩ = some (.string L2.value) ∧ wx.cell? ⟨X0, 0, none⟩ = some (.string G)) := Lib.hid fun wx hb => ⟨(hb.cell (p := ⟨z, 1, none⟩) f1).trans c1, (hb.cell (p := ⟨z, 2, none⟩) f1).trans c2, (hb.cell (p := ⟨X0, 0, none⟩) q2).trans b1⟩
                              go_upto_region 26 with fail
                              go_quiet (fail)
                              have HX := Lib.hid (below_drewN (Below.refl wc.heap.size wc) nq)
                              have HP1 := Lib.hid (HPx.out.call HX.out)
                              go_wp2_with fail
                              have HQ := Lib.hid (HP1.out.2.2.2.1.fill (c0 := .string G) (c1 := .slice ou ls.length cu) (c2 := .slice ov ps.length cv) rfl)
                              have hq1 := HQ.out.1
                              have hq2 := HQ.out.2.1
                              have hq3 := HQ.out.2.2.1
                              exact bodyPost_ret (v := .tuple #[.agg #[.string G, .slice ou ls.length cu, .slice ov ps.length cv], .iface 26 (.int .i64 5)]) (by simp [results, Tryd.results40, go_sem, hq1, hq2, hq3]) rfl (HP1.out.bad HQ.out.2.2.2 (by rw [HR.out]) (by decide) (by rw [HR.out]))
                          · have hn3 : (L2.name.toList == [69, 78, 68]) = false := beq_eq_false_iff_ne.2 (by rw [Lib.toList_data]; exact hne)
                            rw [if_neg hne] at hV
                            by_cases hps : ps = []
                            · rw [if_neg (fun h => h hps)] at hV
                              have HV2 := Lib.hid hV
                              have hp1 : (ps.length : Int) = 0 := by rw [hps]; rfl
                              clear hV hnm hne
                              have hrw := HRx.out
                              rcases hrw with ⟨-, hv0, lq, hlq, hA⟩ | ⟨h0, -⟩
                              · rw [hps] at hv0
                                have hlen : lq.length ≤ ls.length := by rw [← hlq, List.length_map]; exact Nat.le_refl _
                                have HOW : Hid (∀ b, (Value.slice ou ls.length cu).ownBlock = some b → b < wA.heap.size) := Lib.hid fun b hb => by
                                  rcases HRW.out with ⟨-, -, l', -, h'⟩ | ⟨h0, -⟩
                                  · exact (World.ownsRow.lt h'.1 b hb).2
                                  · exact absurd hps h0
                                have HA := Lib.hid hA
                                have HLQ := Lib.hid hlq
                                have HPS := Lib.hid hps
                                have HV0 := Lib.hid hv0
                                clear hA hlq hv0 hps
                                obtain ⟨il, hi0, hz0, hz1, hz2⟩ := info_parts3 line_info
                                have x1 : ¬ rb = X0 := by omega
                                have x2 : ¬ X0 = rb := by omega
                                have wa2 : IntKind.i64.wrap ((a2 : Int) + 1) = (a2 : Int) + 1 := IntWalk.i64_in _ (by omega)
                                go_wp2_with (at_builtin; refine wpList_append_lies _ rfl _ _ 22 rfl (X0 + 1) 64 il (.agg #[.string ⟨#[]⟩, .slice none 0 0, .string ⟨#[]⟩]) 3 56 Tryd.underlying22 hi0 hz0 hz1 hz2 rfl (by decide) _ lq.length (lq.flatMap cLn) rfl (HA.out.1.alloc _) _ 1 1 [.string L2.name, .slice oa2 L2.prms.length c2', .string L2.value] rfl rfl (cells_at (by simp) _ _) (by simp [Value.oneCell']) (by decide) (by unfold maxLen; omega) (by omega) (by simp; omega) _ rfl ?_; intro g5 c5 w6 hown hgrow hat _; have hb6 : Below wc.heap.size wc (wc.alloc (.cells #[.string L2.name, .slice oa2 L2.prms.length c2', .string L2.value] 64)) := (Below.refl _ _).alloc (Nat.le_refl _) _; have hp6 := (HPx.out.call hb6).app hgrow (fun k hk => by have := (World.ownsRow.lt HA.out.1 k hk).1; omega); have hr6 := (HA.out.call qLn_keep hb6).more qLn_keep (a := (L2, .slice oa2 L2.prms.length c2')) hown hgrow hat (HQP.out.keep fun b hb => ⟨⟨by have := HP.out.2.2.1.2; omega, Nat.lt_of_lt_of_le hb.2 hb6.size, fun e => by have := HOW.out b e; omega⟩, hb6.block b hb.2⟩); have HM6 := Lib.hid ((hp6.putU (.slice (some ⟨g5, 0, none⟩) (lq.length + 1) c5)).at (a2 + 1)); have HR6 := Lib.hid (hr6.grown qLn_keep (grown_set w6 ⟨X0, 1, none⟩ (.slice (some ⟨g5, 0, none⟩) (lq.length + 1) c5)) (Nat.lt_succ_self _)); obtain ⟨-, -, ⟨-, y5⟩, -, ⟨-, y6, y7, -, -⟩, ⟨s0, s1, s2, s3, -, -⟩⟩ := hp6; clear hr6 hown hgrow hat hb6)
                                go_roundg (lines.length - (a2 + 1))
                                case measure => omega
                                case rel => exact ⟨a2 + 1, f', _, _, ls ++ [L2], ps, by omega, by omega, by omega, by rw [List.length_append, List.length_singleton]; omega, HM6, Lib.hid (.inl ⟨HPS.out, by rw [HPS.out]; exact HV0.out, lq ++ [(L2, .slice oa2 L2.prms.length c2')], by rw [List.map_append, HLQ.out]; rfl, HR6.out.grown qLn_keep (grown_set _ _ _) (by show rb < _; omega)⟩), HV2⟩
                              · exact absurd hps h0
                            · rw [if_pos hps] at hV
                              have HR := Lib.hid hV
                              have hp1 : (0 : Int) < (ps.length : Int) := by have := List.length_pos_iff.2 hps; omega
                              clear hV hnm hne hps
                              go_wp2_with fail
                              have HQ := Lib.hid (HPx.out.2.2.2.1.fill (c0 := .string G) (c1 := .slice ou ls.length cu) (c2 := .slice ov ps.length cv) rfl)
                              have hq1 := HQ.out.1
                              have hq2 := HQ.out.2.1
                              have hq3 := HQ.out.2.2.1
                              exact bodyPost_ret (v := .tuple #[.agg #[.string G, .slice ou ls.length cu, .slice ov ps.length cv], .iface 26 (.int .i64 7)]) (by simp [results, Tryd.results40, go_sem, hq1, hq2, hq3]) rfl (HPx.out.bad HQ.out.2.2.2 (by rw [HR.out]) (by decide) (by rw [HR.out]))
                      · rw [errV_ne hE0]
                        rw [if_pos hE0] at hV
                        have HR := Lib.hid hV
                        have HE0 := Lib.hid hE0
                        clear hV hE0
                        go_wp2_with fail
                        have HQ := Lib.hid (HPx.out.2.2.2.1.fill (c0 := .string G) (c1 := .slice ou ls.length cu) (c2 := .slice ov ps.length cv) rfl)
                        have hq1 := HQ.out.1
                        have hq2 := HQ.out.2.1
                        have hq3 := HQ.out.2.2.1
                        exact bodyPost_ret (v := .tuple #[.agg #[.string G, .slice ou ls.length cu, .slice ov ps.length cv], .iface 26 (.int .i64 E2)]) (by simp [results, Tryd.results40, go_sem, hq1, hq2, hq3]) rfl (HPx.out.bad HQ.out.2.2.2 (by rw [HR.out]) HE0.out (by rw [HR.out]))
                  · have HR : Hid (partP lines (j + 1) a = ⟨13, part0, a2⟩) := Lib.hid (HVV.out.trans (loopP_out hal2))
                    obtain rfl : a2 = lines.length := by omega
                    have HPn := Lib.hid (fun n => HP.out.call (below_drewN (Below.refl _ _) n))
                    have hf := fun n => (HPn.out n).2.2.2.1.fill (c0 := .string G) (c1 := .slice ou ls.length cu) (c2 := .slice ov ps.length cv) rfl
                    have HQ := Lib.hid hf
                    clear hf
                    go_wp2_with fail
                    go_quiet (fail)
                    go_wp2_with fail
                    have hq1 := fun n => (HQ.out n).1
                    have hq2 := fun n => (HQ.out n).2.1
                    have hq3 := fun n => (HQ.out n).2.2.1
                    exact bodyPost_ret (v := .tuple #[.agg #[.string G, .slice ou ls.length cu, .slice ov ps.length cv], .iface 26 (.int .i64 13)]) (by simp [results, Tryd.results40, go_sem, hq1, hq2, hq3]) rfl ((HPn.out _).bad (HQ.out _).2.2.2 (by rw [HR.out]) (by decide) (by rw [HR.out]))
          · have hp2 : (0 : Int) < (L.prms.length : Int) := by have := List.length_pos_iff.2 hpr; omega
            have HR := Lib.hid (HBAD.out 5 (headE_form hal hL0 (by rw [hLL]; exact .inr hpr)) (by decide))
            clear hL0 hLL hnm hpr
            go_wp2_with fail
            have HQ := Lib.hid (HPZ.out.2.2.1.fill (c0 := .string ⟨#[]⟩) (c1 := .slice none 0 0) (c2 := .slice none 0 0) rfl)
            have hq1 := HQ.out.1
            have hq2 := HQ.out.2.1
            have hq3 := HQ.out.2.2.1
            exact bodyPost_ret (v := .tuple #[.agg #[.string ⟨#[]⟩, .slice none 0 0, .slice none 0 0], .iface 26 (.int .i64 5)]) (by simp [results, Tryd.results40, go_sem, hq1, hq2, hq3]) rfl (HPZ.out.bad HQ.out.2.2.2 (by rw [HR.out]) (by decide) (by rw [HR.out]))
        · have hn2 : ¬ L.name.toList = [66, 69, 71, 73, 78] := by rw [Lib.toList_data]; exact hnm
          have HR := Lib.hid (HBAD.out 5 (headE_form hal hL0 (by rw [hLL]; exact .inl hnm)) (by decide))
          clear hL0 hLL hnm
          go_wp2_with fail
          have HQ := Lib.hid (HPZ.out.2.2.1.fill (c0 := .string ⟨#[]⟩) (c1 := .slice none 0 0) (c2 := .slice none 0 0) rfl)
          have hq1 := HQ.out.1
          have hq2 := HQ.out.2.1
          have hq3 := HQ.out.2.2.1
          exact bodyPost_ret (v := .tuple #[.agg #[.string ⟨#[]⟩, .slice none 0 0, .slice none 0 0], .iface 26 (.int .i64 5)]) (by simp [results, Tryd.results40, go_sem, hq1, hq2, hq3]) rfl (HPZ.out.bad HQ.out.2.2.2 (by rw [HR.out]) (by decide) (by rw [HR.out]))
      · rw [errV_ne hE0]
        have hEE : headE lines a = E := by rw [headE_ln hal (by rw [HEL.out]; exact hE0), HEL.out]
        have HR := Lib.hid (partP_bad (k := k) (show headE lines a ≠ 0 by rw [hEE]; exact hE0))
        rw [hEE] at HR
        have HE0 := Lib.hid hE0
        clear hEE hE0
        go_wp2_with fail
        have HQ := Lib.hid (HPZ.out.2.2.1.fill (c0 := .string ⟨#[]⟩) (c1 := .slice none 0 0) (c2 := .slice none 0 0) rfl)
        have hq1 := HQ.out.1
        have hq2 := HQ.out.2.1
        have hq3 := HQ.out.2.2.1
        exact bodyPost_ret (v := .tuple #[.agg #[.string ⟨#[]⟩, .slice none 0 0, .slice none 0 0], .iface 26 (.int .i64 E)]) (by simp [results, Tryd.results40, go_sem, hq1, hq2, hq3]) rfl (HPZ.out.bad HQ.out.2.2.2 (by rw [HR.out]) HE0.out (by rw [HR.out]))
  · obtain rfl : a = lines.length := by omega
    obtain ⟨r0, r1, r2, r3, r4, -⟩ := hR
    obtain ⟨oa, cap, rfl⟩ := r4.form
    clear r4
    have HR := Lib.hid (partP_bad (k := k) (show headE lines lines.length ≠ 0 by rw [headE_out hal]; decide))
    rw [headE_out hal] at HR
    go_enter Tryd.func40, Tryd.ntmps40
    go_wp2_with fail
    go_quiet (fail)
    have HPn := Lib.hid (fun n => HP.out.call (below_drewN (Below.refl _ _) n))
    have hf := fun n => (HPn.out n).2.2.1.fill (c0 := .string ⟨#[]⟩) (c1 := .slice none 0 0) (c2 := .slice none 0 0) rfl
    have HQ := Lib.hid hf
    clear hf
    go_wp2_with fail
    have hq1 := fun n => (HQ.out n).1
    have hq2 := fun n => (HQ.out n).2.1
    have hq3 := fun n => (HQ.out n).2.2.1
    exact bodyPost_ret (v := .tuple #[.agg #[.string ⟨#[]⟩, .slice none 0 0, .slice none 0 0], .iface 26 (.int .i64 13)]) (by simp [results, Tryd.results40, go_sem, hq1, hq2, hq3]) rfl ((HPn.out _).bad (HQ.out _).2.2.2 (by rw [HR.out]) (by decide) (by rw [HR.out]))
end Go.Proofs.YtidgahnamdhflaaDoor
