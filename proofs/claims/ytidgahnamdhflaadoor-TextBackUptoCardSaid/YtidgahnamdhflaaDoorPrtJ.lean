/- text.Print; plain.TextCheck, plain.TextPrint; the document's PartCheck. -/
import Derived.Test.YtidgahnamdhflaaDoorPrtI
import Derived.Test.YtidgahnamdhflaaDoorTell
namespace Go.Proofs.YtidgahnamdhflaaDoor
open Go.RowKit Go.Shelf Fld Prt
/-- What printing a part answers. -/
def prE (p : Part) : Int := (chkP 8 0 p).1
def prL (p : Part) : List UInt8 := if prE p = 0 then textP p else []
theorem prL_ok {p : Part} (h : prE p = 0) : prL p = textP p := if_pos h
theorem prL_no {p : Part} (h : prE p ≠ 0) : prL p = [] := if_neg h
set_option maxRecDepth 100000 in
set_option maxHeartbeats 4000000 in
theorem print_any (B : Nat) (p : Part) (u v : Value) (w : World) (hR : PartR B 8 w u v p) (hB : B ≤ w.heap.size) (hz : bkP p ≤ 1048576) :
    Calls Tryd.prog 17 #[.agg #[.string p.name, u, v]] w fun e w' => e = .returned (.tuple #[.string ⟨(prL p).toArray⟩, errV (prE p)]) ∧ Below w.heap.size w w' := by
  have hC := fun w0 (hb : Below w.heap.size w w0) => textCheck_any B p u v w0 (hR.call (hb.mono hB)) (Nat.le_trans hB hb.size) hz
  have hW := fun b l w0 (hb : Below w.heap.size w w0) (hbb : w.heap.size ≤ b) (hl : Bld b l w0) (hf : prE p = 0) (hll : l.length ≤ 1000) => write_any B 8 p u v b l w0 (hR.call (hb.mono hB)) (chkP_fits 8 0 p hf) (Nat.le_trans hB hbb) hl hz (by omega)
  obtain ⟨⟨oa, ca, rfl⟩, ob, cb, rfl⟩ := hR.forms
  obtain ⟨s, hs⟩ : ∃ s, p.name = s := ⟨_, rfl⟩
  obtain ⟨M, hM⟩ : ∃ M, p.lines.length = M := ⟨_, rfl⟩
  obtain ⟨Q, hQ⟩ : ∃ Q, p.parts.length = Q := ⟨_, rfl⟩
  rw [hs, hM, hQ] at hC hW ⊢
  have HB0 := Lib.hid ((Below.refl w.heap.size w).alloc (Nat.le_refl _) (.cells #[.string s, .slice oa M ca, .slice ob Q cb] 25))
  obtain ⟨wB, hwB⟩ : ∃ x, w.alloc (.cells #[.string s, .slice oa M ca, .slice ob Q cb] 25) = x := ⟨_, rfl⟩
  have hlt : w.heap.size < wB.heap.size := by rw [← hwB]; simp
  have HQQ : Hid (wB.cell? ⟨w.heap.size, 0, none⟩ = some (.string s) ∧ wB.cell? ⟨w.heap.size, 1, none⟩ = some (.slice oa M ca) ∧ wB.cell? ⟨w.heap.size, 2, none⟩ = some (.slice ob Q cb)) := Lib.hid (by rw [← hwB]; simp [go_sem])
  have SB : Hid (∀ wx, Below wB.heap.size wB wx → w.heap.size < wx.heap.size ∧ wx.cell? ⟨w.heap.size, 0, none⟩ = some (.string s) ∧ wx.cell? ⟨w.heap.size, 1, none⟩ = some (.slice oa M ca) ∧ wx.cell? ⟨w.heap.size, 2, none⟩ = some (.slice ob Q cb)) := Lib.hid fun wx hb => ⟨Nat.lt_of_lt_of_le hlt hb.size, (hb.cell (p := ⟨w.heap.size, 0, none⟩) hlt).trans HQQ.out.1, (hb.cell (p := ⟨w.heap.size, 1, none⟩) hlt).trans HQQ.out.2.1, (hb.cell (p := ⟨w.heap.size, 2, none⟩) hlt).trans HQQ.out.2.2⟩
  have HBw : Hid (Below w.heap.size w wB) := Lib.hid (by rw [← hwB]; exact HB0.out)
  have HwB := Lib.hid hwB
  have CC : Hid (∀ w0, Below w.heap.size w w0 → Calls Tryd.prog 20 #[.agg #[.string s, .slice oa M ca, .slice ob Q cb]] w0 fun e w' => e = .returned (errV (prE p)) ∧ Below w0.heap.size w0 w') := Lib.hid hC
  have CW := Lib.hid hW
  clear hR hB hz hs hM hQ hlt HQQ hwB hC hW
  by_cases hx : prE p = 0
  · have HE := Lib.hid hx
    have HL := Lib.hid (prL_ok hx)
    have CC2 : Hid (∀ w0, Below w.heap.size w w0 → Calls Tryd.prog 20 #[.agg #[.string s, .slice oa M ca, .slice ob Q cb]] w0 fun e w' => e = .returned .nilIface ∧ Below w0.heap.size w0 w') := Lib.hid (by have h := CC.out; rw [hx] at h; exact h)
    clear CC hx
    go_enter Tryd.func17, Tryd.ntmps17
    go_upto_region 4 with (go_at_call 20; (with_reducible refine (CC2.out _ HB0.out).mono ?_); rintro e w1 ⟨rfl, hb⟩; rw [HwB.out] at hb; have HB1 := Lib.hid hb; clear hb)
    obtain ⟨l0, c0, c1, c2⟩ := SB.out _ HB1.out
    have HBn := Lib.hid (Bld.new w1)
    have HW1 := Lib.hid (thenB HBw.out HB1.out)
    have HW2 := Lib.hid (HW1.out.alloc HW1.out.size (.cells #[.pointer none, .slice none 0 0] 72))
    have CWx : Hid (Calls Tryd.prog 31 #[.pointer (some ⟨w1.heap.size, 0, none⟩), .agg #[.string s, .slice oa M ca, .slice ob Q cb]] (w1.alloc (.cells #[.pointer none, .slice none 0 0] 72)) (WrPost w1.heap.size ([] ++ textP p) (w1.alloc (.cells #[.pointer none, .slice none 0 0] 72)))) := Lib.hid (CW.out w1.heap.size [] _ HW2.out HW1.out.size HBn.out HE.out (by simp))
    go_wp2_with (first
      | (go_at_call 31; (with_reducible refine CWx.out.mono ?_); rintro e w3 ⟨rfl, hB, hk⟩; have HL3 := Lib.hid hB; have HK3 := Lib.hid hk; clear hB hk)
      | (go_at_call 32; refine (strB w1.heap.size _ _ HL3.out (Nat.le_of_lt HL3.out.lt)).mono ?_; rintro e w4 ⟨rfl, hb⟩; have HB4 := Lib.hid hb; clear hb))
    go_ret2
    refine ⟨by rw [HE.out, HL.out]; rfl, HW2.out.trans ((HK3.out.1.trans HB4.out).mono HW1.out.size)⟩
  · have hev := errV_ne hx
    have HL := Lib.hid (prL_no hx)
    have CC2 : Hid (∀ w0, Below w.heap.size w w0 → Calls Tryd.prog 20 #[.agg #[.string s, .slice oa M ca, .slice ob Q cb]] w0 fun e w' => e = .returned (.iface 26 (.int .i64 (prE p))) ∧ Below w0.heap.size w0 w') := Lib.hid (by have h := CC.out; rw [hev] at h; exact h)
    have HEV := Lib.hid hev
    clear CC hx hev
    go_enter Tryd.func17, Tryd.ntmps17
    go_wp2_with (go_at_call 20; (with_reducible refine (CC2.out _ HB0.out).mono ?_); rintro e w1 ⟨rfl, hb⟩; have HB1 := Lib.hid (thenB HB0.out hb); clear hb)
    go_ret2
    exact ⟨by rw [HEV.out, HL.out]; rfl, HB1.out⟩
set_option maxRecDepth 100000 in
set_option maxHeartbeats 2000000 in
theorem plainCheckP_any (B : Nat) (p : Part) (u v : Value) (w : World) (hT : ErrT w) (hR : PartR B 8 w u v p) (hB : B ≤ w.heap.size) (hz : bkP p ≤ 1048576) :
    Calls Tryd.prog 8 #[.agg #[.string p.name, u, v]] w fun e w' => e = .returned (.int .i64 (prE p)) ∧ Below w.heap.size w w' := by
  have hC := fun w0 (hb : Below w.heap.size w w0) => textCheck_any B p u v w0 (hR.call (hb.mono hB)) (Nat.le_trans hB hb.size) hz
  obtain ⟨⟨oa, ca, rfl⟩, ob, cb, rfl⟩ := hR.forms
  obtain ⟨s, hs⟩ : ∃ s, p.name = s := ⟨_, rfl⟩
  obtain ⟨M, hM⟩ : ∃ M, p.lines.length = M := ⟨_, rfl⟩
  obtain ⟨Q, hQ⟩ : ∃ Q, p.parts.length = Q := ⟨_, rfl⟩
  rw [hs, hM, hQ] at hC ⊢
  obtain ⟨x, hx⟩ : ∃ x, prE p = x := ⟨_, rfl⟩
  have CC : Hid (∀ w0, Below w.heap.size w w0 → Calls Tryd.prog 20 #[.agg #[.string s, .slice oa M ca, .slice ob Q cb]] w0 fun e w' => e = .returned (errV (prE p)) ∧ Below w0.heap.size w0 w') := Lib.hid hC
  rw [hx] at CC ⊢
  obtain ⟨E, hE⟩ : ∃ E, errV x = E := ⟨_, rfl⟩
  rw [hE] at CC
  have HE := Lib.hid hE
  have HT := Lib.hid hT
  have HB0 := Lib.hid ((Below.refl w.heap.size w).alloc (Nat.le_refl _) (.cells #[.string s, .slice oa M ca, .slice ob Q cb] 25))
  clear hR hB hz hs hM hQ hC hx hE hT
  go_enter Tryd.func8, Tryd.ntmps8
  go_wp2_with (first
    | (go_at_call 20; (with_reducible refine (CC.out _ HB0.out).mono ?_); rintro e w1 ⟨rfl, hb⟩; have HB1 := Lib.hid (thenB HB0.out hb); have HT1 := Lib.hid (HT.out.call HB1.out); clear hb)
    | (go_at_call 18; rw [← HE.out]; refine (tell_any x _ HT1.out).mono ?_; rintro e w2 ⟨rfl, hb2⟩; have HB2 := Lib.hid (thenB HB1.out hb2); clear hb2))
  go_ret
  exact ⟨rfl, HB2.out⟩
set_option maxRecDepth 100000 in
set_option maxHeartbeats 2000000 in
theorem plainPrint_any (B : Nat) (p : Part) (u v : Value) (w : World) (hT : ErrT w) (hR : PartR B 8 w u v p) (hB : B ≤ w.heap.size) (hz : bkP p ≤ 1048576) :
    Calls Tryd.prog 6 #[.agg #[.string p.name, u, v]] w fun e w' => e = .returned (.tuple #[.string ⟨(prL p).toArray⟩, .int .i64 (prE p)]) ∧ Below w.heap.size w w' := by
  have hC := fun w0 (hb : Below w.heap.size w w0) => print_any B p u v w0 (hR.call (hb.mono hB)) (Nat.le_trans hB hb.size) hz
  obtain ⟨⟨oa, ca, rfl⟩, ob, cb, rfl⟩ := hR.forms
  obtain ⟨s, hs⟩ : ∃ s, p.name = s := ⟨_, rfl⟩
  obtain ⟨M, hM⟩ : ∃ M, p.lines.length = M := ⟨_, rfl⟩
  obtain ⟨Q, hQ⟩ : ∃ Q, p.parts.length = Q := ⟨_, rfl⟩
  rw [hs, hM, hQ] at hC ⊢
  obtain ⟨x, hx⟩ : ∃ x, prE p = x := ⟨_, rfl⟩
  obtain ⟨S, hS⟩ : ∃ S : ByteArray, (⟨(prL p).toArray⟩ : ByteArray) = S := ⟨_, rfl⟩
  have CC : Hid (∀ w0, Below w.heap.size w w0 → Calls Tryd.prog 17 #[.agg #[.string s, .slice oa M ca, .slice ob Q cb]] w0 fun e w' => e = .returned (.tuple #[.string ⟨(prL p).toArray⟩, errV (prE p)]) ∧ Below w0.heap.size w0 w') := Lib.hid hC
  rw [hx, hS] at CC ⊢
  obtain ⟨E, hE⟩ : ∃ E, errV x = E := ⟨_, rfl⟩
  rw [hE] at CC
  have HE := Lib.hid hE
  have HT := Lib.hid hT
  have HB0 := Lib.hid ((Below.refl w.heap.size w).alloc (Nat.le_refl _) (.cells #[.string s, .slice oa M ca, .slice ob Q cb] 25))
  clear hR hB hz hs hM hQ hC hx hE hT hS
  go_enter Tryd.func6, Tryd.ntmps6
  go_wp2_with (first
    | (go_at_call 17; (with_reducible refine (CC.out _ HB0.out).mono ?_); rintro e w1 ⟨rfl, hb⟩; have HB1 := Lib.hid (thenB HB0.out hb); have HT1 := Lib.hid (HT.out.call HB1.out); clear hb)
    | (go_at_call 18; rw [← HE.out]; refine (tell_any x _ HT1.out).mono ?_; rintro e w2 ⟨rfl, hb2⟩; have HB2 := Lib.hid (thenB HB1.out hb2); clear hb2))
  go_ret2
  exact ⟨rfl, HB2.out⟩
set_option maxRecDepth 100000 in
set_option maxHeartbeats 2000000 in
theorem rcheck_any (B : Nat) (p : Part) (u v : Value) (w : World) (hR : PartR B 8 w u v p) (hB : B ≤ w.heap.size) (hz : bkP p ≤ 1048576) :
    Calls Tryd.prog 9 #[.agg #[.string p.name, u, v]] w fun e w' => e = .returned (.int .i64 (prE p)) ∧ Below w.heap.size w w' := by
  obtain ⟨⟨oa, ca, rfl⟩, ob, cb, rfl⟩ := hR.forms
  obtain ⟨s, hs⟩ : ∃ s, p.name = s := ⟨_, rfl⟩
  obtain ⟨M, hM⟩ : ∃ M, p.lines.length = M := ⟨_, rfl⟩
  obtain ⟨Q, hQ⟩ : ∃ Q, p.parts.length = Q := ⟨_, rfl⟩
  have HB1 : Hid (Below w.heap.size w ((w.alloc (.cells #[.string s, .slice oa M ca, .slice ob Q cb] 25)).alloc (.cells #[.int .i64 0] 3))) := Lib.hid (((Below.refl _ _).alloc (Nat.le_refl _) _).alloc (by simp) _)
  have C : Hid (Calls Tryd.prog 21 #[.agg #[.string s, .slice oa M ca, .slice ob Q cb], .int .i64 1, .pointer (some ⟨w.heap.size + 1, 0, none⟩)] ((w.alloc (.cells #[.string s, .slice oa M ca, .slice ob Q cb] 25)).alloc (.cells #[.int .i64 0] 3)) fun e w' => e = .returned (.int .i64 (prE p)) ∧ KB (w.heap.size + 1) ((w.alloc (.cells #[.string s, .slice oa M ca, .slice ob Q cb] 25)).alloc (.cells #[.int .i64 0] 3)) w') := Lib.hid (by
    have h := partCheck_any B 8 p (.slice oa p.lines.length ca) (.slice ob p.parts.length cb) (w.heap.size + 1) 0 1 ((w.alloc (.cells #[.string s, .slice oa M ca, .slice ob Q cb] 25)).alloc (.cells #[.int .i64 0] 3)) (hR.call (HB1.out.mono hB)) (by decide) (by decide) (by decide) (by decide) (by omega) ⟨by simp, by simp, by simp⟩ hz
    rw [hs, hM, hQ] at h
    exact h.mono fun e w' ⟨h1, h2, _⟩ => ⟨h1, h2⟩)
  obtain ⟨x, hx⟩ : ∃ x, prE p = x := ⟨_, rfl⟩
  rw [hx] at C ⊢
  rw [hs, hM, hQ]
  clear hR hB hz hx hs hM hQ
  go_enter Tryd.func9, Tryd.ntmps9
  go_wp2_with (go_at_call 21; (with_reducible refine C.out.mono ?_); rintro e w2 ⟨rfl, hk⟩; have HK := Lib.hid hk; clear hk)
  go_ret
  exact ⟨rfl, HB1.out.trans (HK.out.1.mono (by omega))⟩
end Go.Proofs.YtidgahnamdhflaaDoor
