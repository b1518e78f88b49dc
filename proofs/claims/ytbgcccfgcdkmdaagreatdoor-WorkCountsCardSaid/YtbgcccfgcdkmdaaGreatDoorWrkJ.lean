/- work.Holidays; the document's goes. -/
import Derived.Test.YtbgcccfgcdkmdaaGreatDoorWrkI
import Derived.Test.YtbgcccfgcdkmdaaGreatDoorWrkD
namespace Go.Proofs.YtbgcccfgcdkmdaaGreatDoor
open Go.RowKit Wrk
/-- What work.Holidays answers. -/
def HolOk (H : Hrs) (y : Int) (l : List Int) (x : Int) : Prop :=
  (chk H ≠ 0 ∧ x = chk H ∧ l = []) ∨ (chk H = 0 ∧ (y < 1 ∨ 9999 < y) ∧ x = 4 ∧ l = []) ∨ (chk H = 0 ∧ 1 ≤ y ∧ y ≤ 9999 ∧ x = 0 ∧ Rises l ∧ ∀ t, t ∈ l ↔ HolD H.hols y t)
theorem HolOk.one {H : Hrs} {y : Int} {l l' : List Int} {x x' : Int} (h : HolOk H y l x) (h' : HolOk H y l' x') : l = l' ∧ x = x' := by
  rcases h with ⟨a, b, c⟩ | ⟨a, b, c, d⟩ | ⟨a, b, c, d, e, f⟩ <;> rcases h' with ⟨a', b', c'⟩ | ⟨a', b', c', d'⟩ | ⟨a', b', c', d', e', f'⟩
  · exact ⟨by rw [c, c'], by rw [b, b']⟩
  · exact absurd a' a
  · exact absurd a' a
  · exact absurd a a'
  · exact ⟨by rw [d, d'], by rw [c, c']⟩
  · omega
  · exact absurd a a'
  · omega
  · exact ⟨rises_one e e' fun t => (f t).trans (f' t).symm, by rw [d, d']⟩
def HolPost (H : Hrs) (y : Int) (er : Int → Value) (w : World) (e : Ending) (w' : World) : Prop := ∃ v x, e = .returned (.tuple #[v, er x]) ∧ (∃ l, IntL w' w.heap.size v l ∧ HolOk H y l x) ∧ Below w.heap.size w w'
theorem hours_cells (s : Nat → Value) (vh : Value) (w : World) : ∃ wB, w.alloc (.cells #[s 0, s 1, s 2, s 3, s 4, s 5, s 6, vh] 26) = wB ∧ (Below w.heap.size w wB ∧ w.heap.size < wB.heap.size) ∧ wB.cell? ⟨w.heap.size, 0, none⟩ = some (s 0) ∧ wB.cell? ⟨w.heap.size, 1, none⟩ = some (s 1) ∧ wB.cell? ⟨w.heap.size, 2, none⟩ = some (s 2) ∧ wB.cell? ⟨w.heap.size, 3, none⟩ = some (s 3) ∧ wB.cell? ⟨w.heap.size, 4, none⟩ = some (s 4) ∧ wB.cell? ⟨w.heap.size, 5, none⟩ = some (s 5) ∧ wB.cell? ⟨w.heap.size, 6, none⟩ = some (s 6) ∧ wB.cell? ⟨w.heap.size, 7, none⟩ = some vh :=
  ⟨_, rfl, ⟨(Below.refl _ _).alloc (Nat.le_refl _) _, by simp⟩, by simp, by simp, by simp, by simp, by simp, by simp, by simp, by simp⟩
set_option maxRecDepth 100000 in
set_option maxHeartbeats 16000000 in
theorem Holidays_any (B : Nat) (H : Hrs) (s : Nat → Value) (vh : Value) (y : Int) (w : World) (hr : RomanT w) (hR : HrsR B w s vh H) (hB : B ≤ w.heap.size) : Calls Tryz.prog 25 #[hoursV s vh, .int .i64 y] w (HolPost H y errV w) := by
  obtain ⟨wB, hwB, ⟨hb0, hlt⟩, f0, f1, f2, f3, f4, f5, f6, f7⟩ := hours_cells s vh w
  have HB0 := Lib.hid hb0
  have HLT := Lib.hid hlt
  have HRB := Lib.hid (RomanT.call hr hb0)
  have HH := Lib.hid (hR.call (hb0.mono hB))
  have HBB := Lib.hid (show B ≤ wB.heap.size from Nat.le_trans hB hb0.size)
  have CC := Lib.hid (check_any B H s vh wB HRB.out HH.out HBB.out)
  have HP : Hid (∀ l x v w', IntL w' w.heap.size v l → HolOk H y l x → Below w.heap.size w w' → HolPost H y errV w (.returned (.tuple #[v, errV x])) w') := Lib.hid fun l x v w' h1 h2 h3 => ⟨v, x, rfl, ⟨l, h1, h2⟩, h3⟩
  have CH := Lib.hid fun h1 h2 h3 w0 hb => holidays_any B H s vh y w0 (RomanT.call HRB.out hb) (HH.out.call (hBW HBB.out hb)) (Nat.le_trans HBB.out hb.size) h1 h2 h3
  obtain ⟨E, hE⟩ : ∃ E, chk H = E := ⟨_, rfl⟩
  have HE := Lib.hid hE
  rw [hE] at CC CH
  unfold hoursV at CC CH
  unfold hoursV
  clear hE hb0 hlt hr hR hB
  by_cases h0 : E = 0
  · subst h0
    rw [errV_nil] at CC
    go_enter Tryz.func25, Tryz.ntmps25
    go_upto_region 4 with (go_at_call 28; refine (CC.out).mono ?_; rintro e w2 ⟨rfl, hb2⟩; have HB2 := Lib.hid hb2; clear hb2)
    have HBW := Lib.hid (thenB HB0.out HB2.out)
    have g0 := (HB2.out.cell (p := ⟨w.heap.size, 0, none⟩) HLT.out).trans f0
    have g1 := (HB2.out.cell (p := ⟨w.heap.size, 1, none⟩) HLT.out).trans f1
    have g2 := (HB2.out.cell (p := ⟨w.heap.size, 2, none⟩) HLT.out).trans f2
    have g3 := (HB2.out.cell (p := ⟨w.heap.size, 3, none⟩) HLT.out).trans f3
    have g4 := (HB2.out.cell (p := ⟨w.heap.size, 4, none⟩) HLT.out).trans f4
    have g5 := (HB2.out.cell (p := ⟨w.heap.size, 5, none⟩) HLT.out).trans f5
    have g6 := (HB2.out.cell (p := ⟨w.heap.size, 6, none⟩) HLT.out).trans f6
    have g7 := (HB2.out.cell (p := ⟨w.heap.size, 7, none⟩) HLT.out).trans f7
    clear f0 f1 f2 f3 f4 f5 f6 f7 hwB
    by_cases l1 : y < 1
    · have HO : Hid (HolOk H y [] 4) := Lib.hid (.inr (.inl ⟨HE.out, by omega, rfl, rfl⟩))
      go_wp2_with fail
      go_ret2
      exact HP.out [] 4 _ _ (IntL.nil _ _) HO.out HBW.out
    · by_cases l2 : 9999 < y
      · have HO : Hid (HolOk H y [] 4) := Lib.hid (.inr (.inl ⟨HE.out, by omega, rfl, rfl⟩))
        go_wp2_with fail
        go_ret2
        exact HP.out [] 4 _ _ (IntL.nil _ _) HO.out HBW.out
      · have CH2 := Lib.hid (CH.out trivial (by omega) (by omega) w2 HB2.out)
        have HO : Hid (∀ l, Rises l → (∀ t, t ∈ l ↔ HolD H.hols y t) → HolOk H y l 0) := Lib.hid fun l h1 h2 => .inr (.inr ⟨HE.out, by omega, by omega, rfl, h1, h2⟩)
        go_wp2_with (go_at_call 38; refine (CH2.out).mono ?_; rintro e w3 ⟨v, l, rfl, hv, h1, h2, hb3⟩; have HV := Lib.hid hv; have HO2 := Lib.hid (HO.out l h1 h2); have HB3 := Lib.hid (thenB HBW.out hb3); clear hv h1 h2 hb3)
        go_ret2
        exact HP.out _ 0 _ _ (HV.out.low HBW.out.size) HO2.out HB3.out
  · have HO : Hid (HolOk H y [] E) := Lib.hid (.inl ⟨by rw [HE.out]; exact h0, HE.out.symm, rfl⟩)
    have HX := Lib.hid (errV_hit h0)
    rw [errV_hit h0] at CC
    go_enter Tryz.func25, Tryz.ntmps25
    go_wp2_with (go_at_call 28; refine (CC.out).mono ?_; rintro e w2 ⟨rfl, hb2⟩; have HB2 := Lib.hid hb2; clear hb2)
    go_ret2
    have := HP.out [] E (.slice none 0 0) _ (IntL.nil _ _) HO.out (thenB HB0.out HB2.out)
    rw [HX.out] at this
    exact this
end Go.Proofs.YtbgcccfgcdkmdaaGreatDoor
