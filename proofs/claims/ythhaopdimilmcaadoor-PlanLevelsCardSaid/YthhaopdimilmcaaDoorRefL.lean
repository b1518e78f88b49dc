/- Lists held against each other. -/
import Derived.Test.YthhaopdimilmcaaDoorRefF
namespace Go.Proofs.YthhaopdimilmcaaDoor
open Go.RowKit
set_option maxRecDepth 100000 in
set_option maxHeartbeats 4000000 in
theorem listSpan_same (v1 v2 : Value) (n b1 b2 : Nat) (f t f' t' : Nat → Int) (w : World) (hn : n ≤ 1000000) (h1 : SpansV w b1 v1 n f t) (h2 : SpansV w b2 v2 n f' t') (hf : ∀ i, i < n → f i = f' i) (ht : ∀ i, i < n → t i = t' i) :
    Calls Tryd.prog 23 #[v1, v2] w fun e w' => e = .returned (.bool true) ∧ Below w.heap.size w w' := by
  obtain ⟨o1, c1, rfl, g1⟩ := h1
  obtain ⟨o2, c2, rfl, g2⟩ := h2
  have H1 := Lib.hid g1
  have H2 := Lib.hid g2
  have HF := Lib.hid hf
  have HT := Lib.hid ht
  clear g1 g2 hf ht
  have hnb : ((n : Int) != (n : Int)) = false := by simp
  go_enter Tryd.func23, Tryd.ntmps23
  go_wp2_with fail
  go_loopw [5] (fun c wr => ∃ k : Nat, c = .int .i64 (k : Int) ∧ k ≤ n ∧ Hid (Below w.heap.size w wr)) (fun c _ => n - (intOf c).toNat)
  case atStart => exact ⟨0, rfl, by omega, Lib.hid (Below.refl _ _)⟩
  case round =>
    obtain ⟨k, rfl, hk, HB⟩ := hrel
    by_cases hkn : k < n
    · obtain ⟨B1, rfl, -, hO1⟩ := H1.out (by omega)
      obtain ⟨B2, rfl, -, hO2⟩ := H2.out (by omega)
      obtain ⟨⟨p1, -⟩, p2, -⟩ := (hO1.call HB.out).2 k hkn
      obtain ⟨⟨p3, -⟩, p4, -⟩ := (hO2.call HB.out).2 k hkn
      rw [HF.out k hkn] at p1
      rw [HT.out k hkn] at p2
      obtain ⟨F, hF⟩ : ∃ x, f' k = x := ⟨_, rfl⟩
      obtain ⟨G, hG⟩ : ∃ x, t' k = x := ⟨_, rfl⟩
      rw [hF] at p1 p3
      rw [hG] at p2 p4
      have r1 := cell_regrown p1
      have r2 := cell_regrown p2
      have r3 := cell_regrown p3
      have r4 := cell_regrown p4
      have k1 : (0 : Int) ≤ (k : Int) := by omega
      have k2 : (k : Int) < (n : Int) := by omega
      clear hF hG hO1 hO2 p1 p2 p3 p4
      go_wp2_with fail
      refine wp_region_below (by kernel_rfl) (by kernel_rfl) ?_
      repeat (go_big_quiet_step (fail))
      refine wpQuiet_nil ?_
      intro w1 hb1
      have HB1 := Lib.hid (thenB HB.out hb1)
      clear hb1 r1 r2 r3 r4
      go_wp2_with fail
      go_roundw
      case rel => exact ⟨k + 1, by go_num, by omega, HB1⟩
      case measure => simp [intOf]; omega
    · go_wp2_with fail
      go_ret
      exact ⟨rfl, HB.out⟩
set_option maxRecDepth 100000 in
set_option maxHeartbeats 4000000 in
theorem listInt_same (v1 v2 : Value) (b1 b2 : Nat) (l : List Nat) (w : World) (hl : l.length ≤ 1000000) (h1 : IntsL w b1 v1 l) (h2 : IntsL w b2 v2 l) :
    Calls Tryd.prog 24 #[v1, v2] w fun e w' => e = .returned (.bool true) ∧ Below w.heap.size w w' := by
  have H1 := Lib.hid h1
  have H2 := Lib.hid h2
  obtain ⟨o1, c1, rfl, _, _, _⟩ := h1
  obtain ⟨o2, c2, rfl, _, _, _⟩ := h2
  obtain ⟨n, hn⟩ : ∃ x, l.length = x := ⟨_, rfl⟩
  rw [hn] at hl ⊢
  have H1' := Lib.hid (show IntsL w b1 (.slice o1 n c1) l by have := H1.out; rwa [hn] at this)
  have H2' := Lib.hid (show IntsL w b2 (.slice o2 n c2) l by have := H2.out; rwa [hn] at this)
  have HN := Lib.hid hn
  clear H1 H2 hn
  have hnb : ((n : Int) != (n : Int)) = false := by simp
  go_enter Tryd.func24, Tryd.ntmps24
  go_wp2_with fail
  go_loopw [5] (fun c wr => ∃ k : Nat, c = .int .i64 (k : Int) ∧ k ≤ n ∧ Hid (Below w.heap.size w wr)) (fun c _ => n - (intOf c).toNat)
  case atStart => exact ⟨0, rfl, by omega, Lib.hid (Below.refl _ _)⟩
  case round =>
    obtain ⟨k, rfl, hk, HB⟩ := hrel
    by_cases hkn : k < n
    · obtain ⟨g1, rfl, p1⟩ := (H1'.out.call HB.out).at (show k < l.length by rw [HN.out]; exact hkn)
      obtain ⟨g2, rfl, p2⟩ := (H2'.out.call HB.out).at (show k < l.length by rw [HN.out]; exact hkn)
      obtain ⟨F, hF⟩ : ∃ x : Int, ((l.getD k 0 : Nat) : Int) = x := ⟨_, rfl⟩
      rw [hF] at p1 p2
      have r1 := cell_regrown p1
      have r2 := cell_regrown p2
      have k1 : (0 : Int) ≤ (k : Int) := by omega
      have k2 : (k : Int) < (n : Int) := by omega
      clear hF p1 p2
      go_wp2_with fail
      refine wp_region_below (by kernel_rfl) (by kernel_rfl) ?_
      repeat (go_big_quiet_step (fail))
      refine wpQuiet_nil ?_
      intro w1 hb1
      have HB1 := Lib.hid (thenB HB.out hb1)
      clear hb1 r1 r2
      go_wp2_with fail
      go_roundw
      case rel => exact ⟨k + 1, by go_num, by omega, HB1⟩
      case measure => simp [intOf]; omega
    · go_wp2_with fail
      go_ret
      exact ⟨rfl, HB.out⟩
end Go.Proofs.YthhaopdimilmcaaDoor
