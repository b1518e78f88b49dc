/- plain.ClockText, ClockOffsetText, ClockStampText; the law ClockTexts. -/
import Derived.Test.YtkfpnlenmdlmjaaGreatDoorZTxtD
namespace Go.Proofs.YtkfpnlenmdlmjaaGreatDoor
open Go.RowKit
set_option maxHeartbeats 2000000 in
theorem plainStamp_any (t z o : Int) (w : World) (hT : ErrT w) (hr : RomanT w) (hp : Pow w) :
    Calls Tryz.prog 13 #[.agg #[.int .i64 t, .int .i64 z, .int .i64 o]] w (StPost (StR t z o) (Value.int .i64) w) := by
  have HT := Lib.hid hT
  have C : Hid (∀ w0, Below w.heap.size w w0 → Calls Tryz.prog 34 #[.agg #[.int .i64 t, .int .i64 z, .int .i64 o]] w0 (StPost (StR t z o) errV w0)) := Lib.hid fun w0 hb => stamp_any t z o w0 (hr.call hb) (hp.call hb)
  unfold StPost at C
  obtain ⟨Q, hQ⟩ : ∃ Q, StR t z o = Q := ⟨_, rfl⟩
  rw [hQ] at C ⊢
  have HK : Hid (∀ S x, Q S x → ∀ w', Below w.heap.size w w' → StPost Q (Value.int .i64) w (.returned (.tuple #[.string ⟨S.toArray⟩, .int .i64 x])) w') := Lib.hid fun S x h w' hb => ⟨S, x, rfl, h, hb⟩
  have HB0 := Lib.hid ((Below.refl w.heap.size w).alloc (Nat.le_refl _) (.cells #[.int .i64 t, .int .i64 z, .int .i64 o] 24))
  clear hT hr hp hQ
  go_enter Tryz.func13, Tryz.ntmps13
  go_wp2_with (first
    | (go_at_call 34; (with_reducible refine (C.out _ HB0.out).mono ?_); rintro e w1 ⟨S, x, rfl, h1, hb1⟩; have H1 := Lib.hid h1; have HB1 := Lib.hid (thenB HB0.out hb1); have HT1 := Lib.hid (HT.out.call HB1.out); clear hb1 h1)
    | (go_at_call 20; refine (tell_any x _ HT1.out).mono ?_; rintro e w2 ⟨rfl, hb2⟩; have HB2 := Lib.hid (thenB HB1.out hb2); clear hb2))
  go_ret2
  exact HK.out _ _ H1.out _ HB2.out
end Go.Proofs.YtkfpnlenmdlmjaaGreatDoor
