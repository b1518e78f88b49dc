/- plain.ClockText, ClockOffsetText, ClockStampText; the law ClockTexts. -/
import Derived.Test.YtkfpnlenmdlmjaaGreatDoorTxtD
namespace Go.Proofs.YtkfpnlenmdlmjaaGreatDoor
open Go.RowKit
theorem ctext_all (t : Int) (w : World) (hr : RomanT w) (hp : Pow w) :
    Calls Tryz.prog 30 #[.int .i64 t] w (TextPost t errV w) := by
  rcases loc_ways t with ht | ⟨g1, g2⟩
  · exact (ctext_off t w hr ht).mono fun e w' ⟨h1, h2⟩ => ⟨[], 4, by rw [h1, errV_hit (by decide)], .off ht, h2⟩
  · exact (ctext_ok t w hr hp ⟨g1, g2⟩).mono fun e w' ⟨S, x, h1, h2, h3⟩ => ⟨S, x, by rw [h1]; obtain rfl := h2.zero g1 g2; rfl, h2, h3⟩
theorem rtext_all (t : Int) (w : World) (hi : InI t) (hp : Pow w) :
    Calls Tryz.prog 10 #[.int .i64 t] w (TextPost t (Value.int .i64) w) := by
  rcases loc_ways t with ht | ⟨g1, g2⟩
  · exact (rtext_off t w hi ht).mono fun e w' ⟨h1, h2⟩ => ⟨[], 4, h1, .off ht, h2⟩
  · exact (rtext_ok t w hi hp ⟨g1, g2⟩).mono fun e w' ⟨S, x, h1, h2, h3⟩ => ⟨S, x, by rw [h1]; obtain rfl := h2.zero g1 g2; rfl, h2, h3⟩
set_option maxHeartbeats 2000000 in
theorem plainText_any (t : Int) (w : World) (hT : ErrT w) (hr : RomanT w) (hp : Pow w) :
    Calls Tryz.prog 9 #[.int .i64 t] w (TextPost t (Value.int .i64) w) := by
  have HT := Lib.hid hT
  have C := Lib.hid (ctext_all t w hr hp)
  unfold TextPost at C
  obtain ⟨Q, hQ⟩ : ∃ Q, TxR t = Q := ⟨_, rfl⟩
  have HK : Hid (∀ S x, Q S x → ∀ w', Below w.heap.size w w' → TextPost t (Value.int .i64) w (.returned (.tuple #[.string ⟨S.toArray⟩, .int .i64 x])) w') := Lib.hid fun S x h w' hb => ⟨S, x, rfl, hQ ▸ h, hb⟩
  rw [hQ] at C
  clear hT hr hp hQ
  go_enter Tryz.func9, Tryz.ntmps9
  go_wp2_with (first
    | (go_at_call 30; (with_reducible refine C.out.mono ?_); rintro e w1 ⟨S, x, rfl, h1, hb1⟩; have H1 := Lib.hid h1; have HB1 := Lib.hid hb1; have HT1 := Lib.hid (HT.out.call hb1); clear hb1 h1)
    | (go_at_call 20; refine (tell_any x _ HT1.out).mono ?_; rintro e w2 ⟨rfl, hb2⟩; have HB2 := Lib.hid (thenB HB1.out hb2); clear hb2))
  go_ret2
  exact HK.out _ _ H1.out _ HB2.out
set_option maxHeartbeats 2000000 in
theorem plainOff_any (n : Int) (w : World) (hT : ErrT w) (hp : Pow w) :
    Calls Tryz.prog 11 #[.int .i64 n] w fun e w' => e = .returned (.tuple #[.string ⟨(offL n).toArray⟩, .int .i64 (offE n)]) ∧ Below w.heap.size w w' := by
  have HT := Lib.hid hT
  have C := Lib.hid (offText_any n w hp)
  obtain ⟨S, hS⟩ : ∃ S : ByteArray, (⟨(offL n).toArray⟩ : ByteArray) = S := ⟨_, rfl⟩
  obtain ⟨x, hx⟩ : ∃ x, offE n = x := ⟨_, rfl⟩
  obtain ⟨E, hE⟩ : ∃ E, errV x = E := ⟨_, rfl⟩
  rw [hS, hx] at C ⊢
  rw [hE] at C
  have HE := Lib.hid hE
  clear hS hx hE hT hp
  go_enter Tryz.func11, Tryz.ntmps11
  go_wp2_with (first
    | (go_at_call 33; (with_reducible refine C.out.mono ?_); rintro e w1 ⟨rfl, hb1⟩; have HB1 := Lib.hid hb1; have HT1 := Lib.hid (HT.out.call hb1); clear hb1)
    | (go_at_call 20; rw [← HE.out]; refine (tell_any x _ HT1.out).mono ?_; rintro e w2 ⟨rfl, hb2⟩; have HB2 := Lib.hid (thenB HB1.out hb2); clear hb2))
  go_ret2
  exact ⟨rfl, HB2.out⟩
set_option maxHeartbeats 2000000 in
theorem plainStamp_any (t z o : Int) (w : World) (hT : ErrT w) (hr : RomanT w) (hp : Pow w) :
    Calls Tryz.prog 13 #[.agg #[.int .i64 t, .int .i64 z, .int .i64 o]] w (StPost (StR t z o) (Value.int .i64) w) := by
  have HT := Lib.hid hT
  have C : Hid (∀ w0, Below w.heap.size w w0 → Calls Tryz.prog 34 #[.agg #[.int .i64 t, .int .i64 z, .int .i64 o]] w0 (StPost (StR t z o) errV w0)) := Lib.hid fun w0 hb => stamp_any t z o w0 (hr.call hb) (hp.call hb)
  unfold StPost at C
  obtain ⟨Q, hQ⟩ : ∃ Q, StR t z o = Q := ⟨_, rfl⟩
  rw [hQ] at C ⊢
  have HK : Hid (∀ S x, Q S x → ∀ w', Below w.heap.size w w' → StPost Q (Value.int .i64) w (.returned (.tuple #[.string ⟨S.toArray⟩, .int .i64 x])) w') := Lib.hid fun S x h w' hb => ⟨S, x, rfl, h, hb⟩
  have HB0 := Lib.hid ((Below.refl w.heap.size w).alloc (Nat.le_refl _) (.cells #[.int .i64 t, .int .i64 z, .int .i64 o] 24))
  clear hT hr hp hQ
  go_enter Tryz.func13, Tryz.ntmps13
  go_wp2_with (first
    | (go_at_call 34; (with_reducible refine (C.out _ HB0.out).mono ?_); rintro e w1 ⟨S, x, rfl, h1, hb1⟩; have H1 := Lib.hid h1; have HB1 := Lib.hid (thenB HB0.out hb1); have HT1 := Lib.hid (HT.out.call HB1.out); clear hb1 h1)
    | (go_at_call 20; refine (tell_any x _ HT1.out).mono ?_; rintro e w2 ⟨rfl, hb2⟩; have HB2 := Lib.hid (thenB HB1.out hb2); clear hb2))
  go_ret2
  exact HK.out _ _ H1.out _ HB2.out
set_option maxRecDepth 100000 in
set_option maxHeartbeats 4000000 in
theorem clockTexts_walk (t n a z o : Int) (w : World) (hT : ErrT w) (hr : RomanT w) (hp : Pow w) (hi : InI t) (hi2 : InI a) :
    Calls Tryz.prog 4 #[.int .i64 t, .int .i64 n, .agg #[.int .i64 a, .int .i64 z, .int .i64 o]] w fun e w' => e = .returned (.bool true) ∧ Below w.heap.size w w' := by
  obtain ⟨F, hF⟩ : ∃ S : ByteArray, (⟨(offL n).toArray⟩ : ByteArray) = S := ⟨_, rfl⟩
  obtain ⟨f, hf⟩ : ∃ x, offE n = x := ⟨_, rfl⟩
  have C1 : Hid (∀ w0, Below w.heap.size w w0 → Calls Tryz.prog 9 #[.int .i64 t] w0 (TextPost t (Value.int .i64) w0)) := Lib.hid fun w0 hb => plainText_any t w0 (hT.call hb) (hr.call hb) (hp.call hb)
  have C2 : Hid (∀ w0, Below w.heap.size w w0 → Calls Tryz.prog 10 #[.int .i64 t] w0 (TextPost t (Value.int .i64) w0)) := Lib.hid fun w0 hb => rtext_all t w0 hi (hp.call hb)
  have C3 : Hid (∀ w0, Below w.heap.size w w0 → Calls Tryz.prog 11 #[.int .i64 n] w0 fun e w' => e = .returned (.tuple #[.string F, .int .i64 f]) ∧ Below w0.heap.size w0 w') := Lib.hid fun w0 hb => hF ▸ hf ▸ plainOff_any n w0 (hT.call hb) (hp.call hb)
  have C4 : Hid (∀ w0, Below w.heap.size w w0 → Calls Tryz.prog 12 #[.int .i64 n] w0 fun e w' => e = .returned (.tuple #[.string F, .int .i64 f]) ∧ Below w0.heap.size w0 w') := Lib.hid fun w0 hb => hF ▸ hf ▸ roffText_any n w0 (hp.call hb)
  have C5 : Hid (∀ w0, Below w.heap.size w w0 → Calls Tryz.prog 13 #[.agg #[.int .i64 a, .int .i64 z, .int .i64 o]] w0 (StPost (StR a z o) (Value.int .i64) w0)) := Lib.hid fun w0 hb => plainStamp_any a z o w0 (hT.call hb) (hr.call hb) (hp.call hb)
  have C6 : Hid (∀ w0, Below w.heap.size w w0 → Calls Tryz.prog 14 #[.agg #[.int .i64 a, .int .i64 z, .int .i64 o]] w0 (StPost (StR a z o) (Value.int .i64) w0)) := Lib.hid fun w0 hb => rstamp_any a z o w0 hi2 (hp.call hb)
  have HO1 : Hid (∀ S x S' x', TxR t S x → TxR t S' x' → S = S' ∧ x = x') := Lib.hid fun S x S' x' p q => p.one q
  have HO2 : Hid (∀ S x S' x', StR a z o S x → StR a z o S' x' → S = S' ∧ x = x') := Lib.hid fun S x S' x' p q => p.one q
  unfold TextPost at C1 C2
  unfold StPost at C5 C6
  obtain ⟨Q1, hQ1⟩ : ∃ Q, TxR t = Q := ⟨_, rfl⟩
  obtain ⟨Q2, hQ2⟩ : ∃ Q, StR a z o = Q := ⟨_, rfl⟩
  rw [hQ1] at C1 C2 HO1
  rw [hQ2] at C5 C6 HO2
  have HB0 := Lib.hid ((Below.refl w.heap.size w).alloc (Nat.le_refl _) (.cells #[.int .i64 a, .int .i64 z, .int .i64 o] 24))
  obtain ⟨wB, hwB⟩ : ∃ x, w.alloc (.cells #[.int .i64 a, .int .i64 z, .int .i64 o] 24) = x := ⟨_, rfl⟩
  have hlt : w.heap.size < wB.heap.size := by rw [← hwB]; simp
  have HQ0 : Hid (wB.cell? ⟨w.heap.size, 0, none⟩ = some (.int .i64 a)) := Lib.hid (by rw [← hwB]; simp)
  have HQ1 : Hid (wB.cell? ⟨w.heap.size, 1, none⟩ = some (.int .i64 z)) := Lib.hid (by rw [← hwB]; simp)
  have HQ2 : Hid (wB.cell? ⟨w.heap.size, 2, none⟩ = some (.int .i64 o)) := Lib.hid (by rw [← hwB]; simp)
  have HwB := Lib.hid hwB
  clear hwB hQ1 hQ2 hF hf hT hr hp hi hi2
  go_enter Tryz.func4, Tryz.ntmps4
  go_wp2_with (first
    | (go_at_call 9; (with_reducible refine (C1.out _ HB0.out).mono ?_); rintro e w1 ⟨S1, x1, rfl, h1, hb1⟩; have H1 := Lib.hid h1; have HB1 := Lib.hid (thenB HB0.out hb1); rw [HwB.out] at hb1; have HBB := Lib.hid hb1; clear hb1 h1)
    | (go_at_call 10; (with_reducible refine (C2.out _ HB1.out).mono ?_); rintro e w2 ⟨S2, x2, rfl, h2, hb2⟩; obtain ⟨rfl, rfl⟩ := HO1.out _ _ _ _ H1.out h2; have HB2 := Lib.hid (thenB HB1.out hb2); replace HBB := Lib.hid (thenB HBB.out hb2); clear hb2 h2)
    | (go_at_call 11; (with_reducible refine (C3.out _ HB2.out).mono ?_); rintro e w3 ⟨rfl, hb3⟩; have HB3 := Lib.hid (thenB HB2.out hb3); replace HBB := Lib.hid (thenB HBB.out hb3); clear hb3)
    | (go_at_call 12; (with_reducible refine (C4.out _ HB3.out).mono ?_); rintro e w4 ⟨rfl, hb4⟩; have HB4 := Lib.hid (thenB HB3.out hb4); replace HBB := Lib.hid (thenB HBB.out hb4); have c0 := (HBB.out.cell (p := ⟨w.heap.size, 0, none⟩) hlt).trans HQ0.out; have c1 := (HBB.out.cell (p := ⟨w.heap.size, 1, none⟩) hlt).trans HQ1.out; have c2 := (HBB.out.cell (p := ⟨w.heap.size, 2, none⟩) hlt).trans HQ2.out; clear hb4)
    | (go_at_call 13; (with_reducible refine (C5.out _ HB4.out).mono ?_); rintro e w5 ⟨S5, x5, rfl, h5, hb5⟩; have H5 := Lib.hid h5; have HB5 := Lib.hid (thenB HB4.out hb5); replace HBB := Lib.hid (thenB HBB.out hb5); replace c0 := (HBB.out.cell (p := ⟨w.heap.size, 0, none⟩) hlt).trans HQ0.out; replace c1 := (HBB.out.cell (p := ⟨w.heap.size, 1, none⟩) hlt).trans HQ1.out; replace c2 := (HBB.out.cell (p := ⟨w.heap.size, 2, none⟩) hlt).trans HQ2.out; clear hb5 h5)
    | (go_at_call 14; (with_reducible refine (C6.out _ HB5.out).mono ?_); rintro e w6 ⟨S6, x6, rfl, h6, hb6⟩; obtain ⟨rfl, rfl⟩ := HO2.out _ _ _ _ H5.out h6; have HB6 := Lib.hid (thenB HB5.out hb6); clear hb6 h6))
  go_ret
  exact ⟨rfl, HB6.out⟩
end Go.Proofs.YtkfpnlenmdlmjaaGreatDoor
