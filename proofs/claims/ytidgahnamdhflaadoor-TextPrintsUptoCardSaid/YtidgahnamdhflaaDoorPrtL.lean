/- The document's PartPrint; the law TextPrints. -/
import Derived.Test.YtidgahnamdhflaaDoorPrtK
import Derived.Test.YtidgahnamdhflaaDoorQTail
namespace Go.Proofs.YtidgahnamdhflaaDoor
open Go.RowKit Go.Shelf Fld Prt
set_option maxRecDepth 100000 in
set_option maxHeartbeats 4000000 in
theorem rprint_any (B : Nat) (p : Part) (u v : Value) (w : World) (hR : PartR B 8 w u v p) (hB : B ≤ w.heap.size) (hz : bkP p ≤ 1048576) :
    Calls Tryd.prog 7 #[.agg #[.string p.name, u, v]] w fun e w' => e = .returned (.tuple #[.string ⟨(prL p).toArray⟩, .int .i64 (prE p)]) ∧ Below w.heap.size w w' := by
  have hC := fun w0 (hb : Below w.heap.size w w0) => rcheck_any B p u v w0 (hR.call (hb.mono hB)) (Nat.le_trans hB hb.size) hz
  have hW := fun w0 (hb : Below w.heap.size w w0) (hf : prE p = 0) => partText_any B 8 p u v w0 (hR.call (hb.mono hB)) (chkP_fits 8 0 p hf) (Nat.le_trans hB hb.size) hz
  obtain ⟨⟨oa, ca, rfl⟩, ob, cb, rfl⟩ := hR.forms
  obtain ⟨s, hs⟩ : ∃ s, p.name = s := ⟨_, rfl⟩
  obtain ⟨M, hM⟩ : ∃ M, p.lines.length = M := ⟨_, rfl⟩
  obtain ⟨Q, hQ⟩ : ∃ Q, p.parts.length = Q := ⟨_, rfl⟩
  rw [hs, hM, hQ] at hC hW ⊢
  have HB0 := Lib.hid ((Below.refl w.heap.size w).alloc (Nat.le_refl _) (.cells #[.string s, .slice oa M ca, .slice ob Q cb] 25))
  have SB := Lib.hid (fun wx h => box3B w s (.slice oa M ca) (.slice ob Q cb) 25 wx h)
  have CC := Lib.hid hC
  have CW := Lib.hid hW
  obtain ⟨x, hx⟩ : ∃ x, prE p = x := ⟨_, rfl⟩
  clear hR hB hz hs hM hQ hC hW
  by_cases hx0 : prE p = 0
  · have HE := Lib.hid hx0
    have HL := Lib.hid (prL_ok hx0)
    have CC2 : Hid (∀ w0, Below w.heap.size w w0 → Calls Tryd.prog 9 #[.agg #[.string s, .slice oa M ca, .slice ob Q cb]] w0 fun e w' => e = .returned (.int .i64 0) ∧ Below w0.heap.size w0 w') := Lib.hid (by have h := CC.out; rw [hx0] at h; exact h)
    have CW2 : Hid (∀ w0, Below w.heap.size w w0 → Calls Tryd.prog 19 #[.agg #[.string s, .slice oa M ca, .slice ob Q cb]] w0 fun e w' => e = .returned (.string ⟨(textP p).toArray⟩) ∧ Below w0.heap.size w0 w') := Lib.hid fun w0 hb => CW.out w0 hb hx0
    obtain ⟨S, hS⟩ : ∃ S : ByteArray, (⟨(textP p).toArray⟩ : ByteArray) = S := ⟨_, rfl⟩
    rw [HL.out, hS]
    rw [hS] at CW2
    clear CC CW hx hx0 hS
    go_enter Tryd.func7, Tryd.ntmps7
    go_upto_region 4 with (go_at_call 9; (with_reducible refine (CC2.out _ HB0.out).mono ?_); rintro e w1 ⟨rfl, hb⟩; obtain ⟨l0, c0, c1, c2⟩ := SB.out _ hb; have HB1 := Lib.hid (thenB HB0.out hb); clear hb)
    go_wp2_with (go_at_call 19; (with_reducible refine (CW2.out _ HB1.out).mono ?_); rintro e w2 ⟨rfl, hb⟩; have HB2 := Lib.hid (thenB HB1.out hb); clear hb)
    go_ret2
    exact ⟨by rw [HE.out]; rfl, HB2.out⟩
  · have hne : (x == 0) = false := beq_eq_false_iff_ne.2 (by rw [← hx]; exact hx0)
    have hne2 : (x != 0) = true := by rw [bne, hne]; rfl
    have HL := Lib.hid (prL_no hx0)
    rw [hx, HL.out]
    have CC2 : Hid (∀ w0, Below w.heap.size w w0 → Calls Tryd.prog 9 #[.agg #[.string s, .slice oa M ca, .slice ob Q cb]] w0 fun e w' => e = .returned (.int .i64 x) ∧ Below w0.heap.size w0 w') := Lib.hid (by have h := CC.out; rw [hx] at h; exact h)
    clear CC CW hx hx0
    go_enter Tryd.func7, Tryd.ntmps7
    go_wp2_with (go_at_call 9; (with_reducible refine (CC2.out _ HB0.out).mono ?_); rintro e w1 ⟨rfl, hb⟩; have HB1 := Lib.hid (thenB HB0.out hb); clear hb)
    go_ret2
    exact ⟨rfl, HB1.out⟩
set_option maxRecDepth 100000 in
set_option maxHeartbeats 4000000 in
theorem textPrints_walk (p : Part) (u v : Value) (w : World) (hT : ErrT w) (hR : PartR w.heap.size 8 w u v p) (hz : bkP p ≤ 1048576) :
    Calls Tryd.prog 3 #[.agg #[.string p.name, u, v]] w fun e w' => e = .returned (.bool true) ∧ Below w.heap.size w w' := by
  have h1 := fun w0 (hb : Below w.heap.size w w0) => plainPrint_any w.heap.size p u v w0 (hT.call hb) (hR.call hb) hb.size hz
  have h2 := fun w0 (hb : Below w.heap.size w w0) => rprint_any w.heap.size p u v w0 (hR.call hb) hb.size hz
  have h3 := fun w0 (hb : Below w.heap.size w w0) => plainCheckP_any w.heap.size p u v w0 (hT.call hb) (hR.call hb) hb.size hz
  have h4 := fun w0 (hb : Below w.heap.size w w0) => rcheck_any w.heap.size p u v w0 (hR.call hb) hb.size hz
  obtain ⟨⟨oa, ca, rfl⟩, ob, cb, rfl⟩ := hR.forms
  obtain ⟨s, hs⟩ : ∃ s, p.name = s := ⟨_, rfl⟩
  obtain ⟨M, hM⟩ : ∃ M, p.lines.length = M := ⟨_, rfl⟩
  obtain ⟨Q, hQ⟩ : ∃ Q, p.parts.length = Q := ⟨_, rfl⟩
  obtain ⟨S, hS⟩ : ∃ S : ByteArray, (⟨(prL p).toArray⟩ : ByteArray) = S := ⟨_, rfl⟩
  obtain ⟨x, hx⟩ : ∃ x, prE p = x := ⟨_, rfl⟩
  rw [hs, hM, hQ] at h1 h2 h3 h4 ⊢
  rw [hx] at h1 h2 h3 h4
  rw [hS] at h1 h2
  have C1 := Lib.hid h1
  have C2 := Lib.hid h2
  have C3 := Lib.hid h3
  have C4 := Lib.hid h4
  have HB0 := Lib.hid ((Below.refl w.heap.size w).alloc (Nat.le_refl _) (.cells #[.string s, .slice oa M ca, .slice ob Q cb] 25))
  have SB := Lib.hid (fun wx h => box3B w s (.slice oa M ca) (.slice ob Q cb) 25 wx h)
  obtain ⟨wB, hwB⟩ : ∃ x, w.alloc (.cells #[.string s, .slice oa M ca, .slice ob Q cb] 25) = x := ⟨_, rfl⟩
  have HwB := Lib.hid hwB
  clear hR hz hs hM hQ hS hx hT h1 h2 h3 h4 hwB
  go_enter Tryd.func3, Tryd.ntmps3
  go_upto_region 3 with (first
    | (go_at_call 6; (with_reducible refine (C1.out _ HB0.out).mono ?_); rintro e w1 ⟨rfl, hb⟩; obtain ⟨l0, c0, c1, c2⟩ := SB.out _ hb; rw [HwB.out] at hb; have HS1 := Lib.hid hb; have HB1 := Lib.hid (thenB HB0.out (by rw [HwB.out]; exact hb)); clear hb)
    | (go_at_call 7; (with_reducible refine (C2.out _ HB1.out).mono ?_); rintro e w2 ⟨rfl, hb⟩; have HS2 := Lib.hid (thenB HS1.out hb); have HB2 := Lib.hid (thenB HB1.out hb); clear hb))
  clear l0 c0 c1 c2
  obtain ⟨l0, c0, c1, c2⟩ := SB.out _ (by rw [HwB.out]; exact HS2.out)
  have y0 := cell_regrown c0
  have y1 := cell_regrown c1
  have y2 := cell_regrown c2
  have D3 : Hid (∀ w0, Below w2.heap.size w2 w0 → Calls Tryd.prog 8 #[.agg #[.string s, .slice oa M ca, .slice ob Q cb]] w0 fun e w' => e = .returned (.int .i64 x) ∧ Below w0.heap.size w0 w') := Lib.hid fun w0 hb => C3.out w0 (thenB HB2.out hb)
  have D4 : Hid (∀ w0, Below w2.heap.size w2 w0 → Calls Tryd.prog 9 #[.agg #[.string s, .slice oa M ca, .slice ob Q cb]] w0 fun e w' => e = .returned (.int .i64 x) ∧ Below w0.heap.size w0 w') := Lib.hid fun w0 hb => C4.out w0 (thenB HB2.out hb)
  refine wp_region_below (by kernel_rfl) (by kernel_rfl) ?_
  repeat (go_big_quiet_step ((first | (go_at_call 8; exact Calls.regrown_of (D3.out _ (below_regrown _ _ _))) | (go_at_call 9; exact Calls.regrown_of (D4.out _ (below_regrown _ _ _))))))
  refine wpQuiet_nil ?_
  intro w7 hb7
  have HB7 := Lib.hid (thenB HB2.out hb7)
  clear hb7
  go_wp2_with fail
  go_ret
  exact ⟨rfl, HB7.out⟩
end Go.Proofs.YtidgahnamdhflaaDoor
