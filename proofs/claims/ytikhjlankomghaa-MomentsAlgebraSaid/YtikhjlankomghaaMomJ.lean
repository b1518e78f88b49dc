/- Less, Has, Spans; the plain package's calls on sets. -/
import Derived.Test.YtikhjlankomghaaMomI
namespace Go.Proofs.Ytikhjlankomghaa
open Go.RowKit
set_option maxRecDepth 100000 in
set_option maxHeartbeats 8000000 in
theorem less_any (v0 v1 : Value) (la lb : List Iv) (w : World) (h0 : IvS w v0 la) (h1 : IvS w v1 lb) (hl : la.length * (lb.length + 1) ≤ 1000000000) (ha : la.length ≤ 1000000000) (hb : lb.length ≤ 1000000) (hn0 : Norm la) (hn1 : Norm lb) :
    Calls Try.prog 17 #[.agg #[v0], .agg #[v1]] w (SetR (LessM la lb) w) := by
  have HN0 := Lib.hid hn0
  have HN1 := Lib.hid hn1
  have H0 := Lib.hid h0
  have H1 := Lib.hid h1
  have HL := Lib.hid hl
  have HA := Lib.hid ha
  have HBL := Lib.hid hb
  obtain ⟨ob0, cap0, rfl, -, -⟩ := h0
  obtain ⟨ob1, cap1, rfl, -, -⟩ := h1
  obtain ⟨n, hm0⟩ : ∃ n, la.length = n := ⟨_, rfl⟩
  obtain ⟨m, hm1⟩ : ∃ n, lb.length = n := ⟨_, rfl⟩
  rw [hm0] at H0 ⊢
  rw [hm1] at H1 ⊢
  clear hn0 hn1 hm0 hm1 hl ha hb
  go_enter Try.func17, Try.ntmps17
  go_wp2_with fail
  have HB0 := Lib.hid (((Below.alloc (Below.refl w.heap.size w) (Nat.le_refl _) (.cells #[.slice ob0 n cap0] 25)).alloc (by simp) (.cells #[.slice ob1 m cap1] 25)).alloc (by simp; omega) (.cells #[.slice none 0 0] 25))
  obtain ⟨w0, hw0⟩ : ∃ x, ((w.alloc (.cells #[.slice ob0 n cap0] 25)).alloc (.cells #[.slice ob1 m cap1] 25)).alloc (.cells #[.slice none 0 0] 25) = x := ⟨_, rfl⟩
  have HC0 := Lib.hid (show (w0.cell? ⟨w.heap.size + 1 + 1, 0, none⟩ = some (.slice none 0 0) ∧ w0.frozen? ⟨w.heap.size + 1 + 1, 0, none⟩ = false) ∧ w0.heap.size = w.heap.size + 3 by rw [← hw0]; simp [go_sem])
  have q1 : w0.cell? ⟨w.heap.size, 0, none⟩ = some (.slice ob0 n cap0) := by rw [← hw0]; simp [go_sem]
  have q2 : w0.cell? ⟨w.heap.size + 1, 0, none⟩ = some (.slice ob1 m cap1) := by rw [← hw0]; simp [go_sem]
  have q3 : w.heap.size + 1 + 1 < w0.heap.size := by rw [HC0.out.2]; omega
  rw [hw0] at HB0 ⊢
  clear hw0
  have HQ1 := Lib.hid q1
  go_region_with (first
    | (go_at_call 18; refine (not_any _ lb _ (H1.out.call (below_drew HB0.out)) HBL.out HN1.out).mono ?_; rintro e w2 ⟨v2, o2, rfl, hno, hv2, -, hb2⟩; have HNO := Lib.hid hno; have HV2 := Lib.hid hv2; have HB2 := Lib.hid (show Below w0.heap.size w0 w2 from (below_drew (Below.refl w0.heap.size w0)).trans hb2); have q4 := (HB2.out.cell (p := ⟨w.heap.size, 0, none⟩) (by show w.heap.size < _; omega)).trans HQ1.out; have q5 : w.heap.size + 1 + 1 < w2.heap.size := Nat.lt_of_lt_of_le q3 HB2.out.size; clear hno hv2 hb2)
    | (go_at_call 16; refine (and_any _ _ la o2 _ (H0.out.call (thenB HB0.out HB2.out)) HV2.out (Nat.le_trans (Nat.mul_le_mul_left _ HNO.out.2.2) HL.out) HA.out (Nat.le_trans HNO.out.2.2 (by have := HBL.out; omega)) HN0.out).mono ?_; rintro e w3 ⟨v3, o3, rfl, hand, hv3, hnw3, hb3⟩; have HAND := Lib.hid hand; have HV3 := Lib.hid hv3; have HNW := Lib.hid hnw3; have HB3 := Lib.hid (HB2.out.trans (hb3.mono HB2.out.size)); have hc1 := (HB3.out.cell (p := ⟨w.heap.size + 1 + 1, 0, none⟩) q3).trans HC0.out.1.1; have hc2 := (HB3.out.frozen (p := ⟨w.heap.size + 1 + 1, 0, none⟩) q3).trans HC0.out.1.2; have hc3 : w.heap.size + 1 + 1 < w3.heap.size := Nat.lt_of_lt_of_le q3 HB3.out.size; obtain ⟨ob3, cap3, rfl, -, -⟩ := id hv3; obtain ⟨n3, hn3⟩ : ∃ n, o3.length = n := ⟨_, rfl⟩; rw [hn3] at HV3 HNW; rw [hn3]; clear hand hv3 hb3 hn3))
  all_goals
    go_wp2_with fail
    have z0 : (w3.setCell ⟨w.heap.size + 1 + 1, 0, none⟩ (.slice ob3 n3 cap3)).cell? ⟨w.heap.size + 1 + 1, 0, none⟩ = some (.slice ob3 n3 cap3) := World.cell?_setCell_same _ _ _ hc1
    refine bodyPost_ret (v := .agg #[.slice ob3 n3 cap3]) (by simp [results, Try.results17, go_sem, z0]) rfl ⟨.slice ob3 n3 cap3, o3, rfl, HAND.out.less HN0.out HNO.out, ?_, ?_, ?_⟩
    · refine HV3.out.far (fun a c nn h e => ?_) _ _
      have h1 := HNW.out a nn c h
      have h2 := HB2.out.size
      omega
    · intro a nn c h
      have h1 := HNW.out a nn c h
      have h2 := HB2.out.size
      omega
    · exact (HB0.out.trans (HB3.out.mono (by omega))).setCell (p := ⟨w.heap.size + 1 + 1, 0, none⟩) (by show w.heap.size ≤ w.heap.size + 1 + 1; omega) _
end Go.Proofs.Ytikhjlankomghaa
