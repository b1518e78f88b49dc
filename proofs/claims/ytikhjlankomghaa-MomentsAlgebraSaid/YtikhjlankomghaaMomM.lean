/- The law's same and its closure on sets. -/
import Derived.Test.YtikhjlankomghaaMomL
namespace Go.Proofs.Ytikhjlankomghaa
open Go.RowKit
set_option maxRecDepth 100000 in
set_option maxHeartbeats 4000000 in
theorem same_yes (v0 v1 : Value) (l : List Iv) (w : World) (h0 : IvS w v0 l) (h1 : IvS w v1 l) (hl : l.length ≤ 1000000000) :
    Calls Try.prog 11 #[v0, v1] w fun e w' => e = .returned (.bool true) ∧ Below w.heap.size w w' := by
  obtain ⟨ob0, cap0, rfl, -, hR0⟩ := h0
  obtain ⟨ob1, cap1, rfl, -, hR1⟩ := h1
  obtain ⟨n, hm⟩ : ∃ n, l.length = n := ⟨_, rfl⟩
  have HM := Lib.hid hm
  have HR0 := Lib.hid hR0
  have HR1 := Lib.hid hR1
  rw [hm] at hl ⊢
  clear hR0 hR1 hm
  have hnb : ((n : Int) != (n : Int)) = false := by simp
  go_enter Try.func11, Try.ntmps11
  go_wp2_with fail
  go_loopw [5] (fun c wr => ∃ k : Nat, c = .int .i64 (k : Int) ∧ k ≤ n ∧ Hid (Below w.heap.size w wr)) (fun c _ => n - (intOf c).toNat)
  case atStart => exact ⟨0, rfl, by omega, Lib.hid (Below.refl _ _)⟩
  case round =>
    obtain ⟨k, rfl, hk, HB⟩ := hrel
    obtain ⟨wA, rfl⟩ : ∃ wo : World, wo = wr := ⟨_, rfl⟩
    by_cases hkn : k < n
    · have hkl : k < l.length := by rw [HM.out]; exact hkn
      have HRA := Lib.hid (HR0.out.call HB.out)
      have HRB := Lib.hid (HR1.out.call HB.out)
      obtain ⟨a, rfl⟩ := HRA.out.1 (by omega)
      obtain ⟨b, rfl⟩ := HRB.out.1 (by omega)
      obtain ⟨p1, p2⟩ := HRA.out.at hkl
      obtain ⟨p3, p4⟩ := HRB.out.at hkl
      obtain ⟨F, hF⟩ : ∃ x, (l.getD k iv0).1 = x := ⟨_, rfl⟩
      obtain ⟨G, hG⟩ : ∃ x, (l.getD k iv0).2 = x := ⟨_, rfl⟩
      rw [hF] at p1 p3
      rw [hG] at p2 p4
      have r1 := cell_regrown p1
      have r2 := cell_regrown p2
      have r3 := cell_regrown p3
      have r4 := cell_regrown p4
      have k1 : (0 : Int) ≤ (k : Int) := by omega
      have k2 : (k : Int) < (n : Int) := by omega
      clear hkl hF hG p1 p2 p3 p4
      go_wp2_with fail
      refine wp_region_below (by kernel_rfl) (by kernel_rfl) ?_
      repeat (go_big_quiet_step (fail))
      refine wpQuiet_nil ?_
      intro w1 hb1
      have HB1 := Lib.hid (thenB HB.out hb1)
      clear hb1 r1 r2 r3 r4
      go_wp2_with fail
      go_roundw
      case rel => exact ⟨k + 1, by go_num, by omega, HB1⟩
      case measure => simp [intOf]; omega
    · obtain rfl : n = k := by omega
      go_wp2_with fail
      go_ret
      exact ⟨rfl, HB.out⟩
set_option maxRecDepth 100000 in
set_option maxHeartbeats 8000000 in
theorem eq_yes (v0 v1 : Value) (l : List Iv) (w : World) (h0 : IvS w v0 l) (h1 : IvS w v1 l) (hl : l.length ≤ 1000000000) :
    Calls Try.prog 10 #[.agg #[v0], .agg #[v1]] w fun e w' => e = .returned (.bool true) ∧ Below w.heap.size w w' := by
  have H0 := Lib.hid h0
  have H1 := Lib.hid h1
  have HL := Lib.hid hl
  obtain ⟨ob0, cap0, rfl, -, -⟩ := h0
  obtain ⟨ob1, cap1, rfl, -, -⟩ := h1
  obtain ⟨n, hm⟩ : ∃ n, l.length = n := ⟨_, rfl⟩
  rw [hm] at H0 H1 ⊢
  clear hm hl
  have HB0 := Lib.hid (Below.alloc (Below.alloc (Below.refl w.heap.size w) (Nat.le_refl _) (.cells #[.slice ob0 n cap0] 27)) (by simp) (.cells #[.slice ob1 n cap1] 27))
  go_enter Try.func10, Try.ntmps10
  go_wp2_with fail
  obtain ⟨w0, hw0⟩ : ∃ x, (w.alloc (.cells #[.slice ob0 n cap0] 27)).alloc (.cells #[.slice ob1 n cap1] 27) = x := ⟨_, rfl⟩
  have q1 : w0.cell? ⟨w.heap.size, 0, none⟩ = some (.slice ob0 n cap0) := by rw [← hw0]; simp [go_sem]
  have q2 : w0.cell? ⟨w.heap.size + 1, 0, none⟩ = some (.slice ob1 n cap1) := by rw [← hw0]; simp [go_sem]
  have q3 : w.heap.size + 1 < w0.heap.size := by rw [← hw0]; simp
  rw [hw0] at HB0 ⊢
  clear hw0
  have HQ2 := Lib.hid q2
  have HL0 := Lib.hid (fun (w' : World) (hb : Below w.heap.size w w') => pspans_any _ l w' (H0.out.call hb) HL.out)
  have HL1 := Lib.hid (fun (w' : World) (hb : Below w.heap.size w w') => pspans_any _ l w' (H1.out.call hb) HL.out)
  go_region_with (first
    | (go_at_call_of 12 (Value.agg #[Value.slice ob0 n cap0]); refine (HL0.out _ (below_drew HB0.out)).mono ?_; rintro e w2 ⟨v2, rfl, hv2, hb2⟩; have HV2 := Lib.hid hv2; have HB2 := Lib.hid (show Below w0.heap.size w0 w2 from (below_drew (Below.refl w0.heap.size w0)).trans hb2); have q4 := (HB2.out.cell (p := ⟨w.heap.size + 1, 0, none⟩) q3).trans HQ2.out; clear hv2 hb2)
    | (go_at_call_of 12 (Value.agg #[Value.slice ob1 n cap1]); refine (HL1.out _ (thenB HB0.out HB2.out)).mono ?_; rintro e w3 ⟨v3, rfl, hv3, hb3⟩; have HV3 := Lib.hid hv3; have HB3 := Lib.hid hb3; clear hv3 hb3)
    | (go_at_call 11; refine (same_yes _ _ l _ (HV2.out.call HB3.out) HV3.out HL.out).mono ?_; rintro e w4 ⟨rfl, hb4⟩; have HB4 := Lib.hid (thenB (HB2.out.trans (HB3.out.mono HB2.out.size)) hb4); clear hb4))
  all_goals
    go_wp2_with fail
    go_ret
    exact ⟨rfl, thenB HB0.out HB4.out⟩
end Go.Proofs.Ytikhjlankomghaa
