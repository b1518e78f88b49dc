/- The operations on sets. -/
import Derived.Test.YtikhjlankomghaaMomF
namespace Go.Proofs.Ytikhjlankomghaa
open Go.RowKit
theorem IvS.allocs {w : World} {v : Value} {l : List Iv} (h : IvS w v l) (o : Obj) : IvS (w.alloc o) v l := h.call (Below.alloc (Below.refl _ _) (Nat.le_refl _) o)
/-- What an operation answers: a set. -/
def SetR (P : List Iv → Prop) (w : World) (e : Ending) (w' : World) : Prop := ∃ v o, e = .returned (.agg #[v]) ∧ P o ∧ IvS w' v o ∧ NewV w.heap.size v ∧ Below w.heap.size w w'
theorem IvS.far {w : World} {v : Value} {l : List Iv} {b : Nat} (h : IvS w v l) (hv : ∀ a c n, v = .slice (some a) n c → a.block ≠ b) (x : Value) (o : Nat) : IvS (w.setCell ⟨b, o, none⟩ x) v l := by
  obtain ⟨ob, cap, h1, h2, h3, h4⟩ := h
  refine ⟨ob, cap, h1, h2, h3, fun a ha => ?_⟩
  obtain ⟨g1, g2⟩ := h4 a ha
  have hne := hv a cap l.length (by rw [h1, ha])
  refine ⟨fun h => by have := g1 h; simpa [World.setCell] using this, fun k hk => ?_⟩
  obtain ⟨g3, g4⟩ := g2 k hk
  exact ⟨by rw [World.cell?_setCell_other _ _ _ _ (by intro e; exact hne (by rw [← ivAdd_block a (k * 2), ← e]))]; exact g3, by rw [World.cell?_setCell_other _ _ _ _ (by intro e; exact hne (by rw [← ivAdd_block a (k * 2 + 1), ← e]))]; exact g4⟩
set_option maxRecDepth 100000 in
set_option maxHeartbeats 4000000 in
theorem or_any (v0 v1 : Value) (l0 l1 : List Iv) (w : World) (h0 : IvS w v0 l0) (h1 : IvS w v1 l1) (hl : l0.length + l1.length ≤ 1000000000) (hn0 : Norm l0) (hn1 : Norm l1) :
    Calls Try.prog 15 #[.agg #[v0], .agg #[v1]] w (SetR (OrM l0 l1) w) := by
  have H0 := Lib.hid h0
  have H1 := Lib.hid h1
  have HN0 := Lib.hid hn0
  have HN1 := Lib.hid hn1
  obtain ⟨ob0, cap0, rfl, -, -⟩ := h0
  obtain ⟨ob1, cap1, rfl, -, -⟩ := h1
  obtain ⟨n0, hm0⟩ : ∃ n, l0.length = n := ⟨_, rfl⟩
  obtain ⟨n1, hm1⟩ : ∃ n, l1.length = n := ⟨_, rfl⟩
  rw [hm0, hm1] at hl
  rw [hm0] at H0 ⊢
  rw [hm1] at H1 ⊢
  have HM := Lib.hid (show l0.length + l1.length ≤ 1000000000 by rw [hm0, hm1]; exact hl)
  have HM2 := Lib.hid (And.intro hm0 hm1)
  clear hn0 hn1 hm0 hm1
  have hap : (l0 ++ l1).length = n0 + n1 := by rw [List.length_append, HM2.out.1, HM2.out.2]
  have HAP := Lib.hid hap
  clear hap
  go_enter Try.func15, Try.ntmps15
  go_wp2_with fail
  refine (concat_any _ _ _ l0 l1 _ ((((H0.out.allocs _).allocs _).allocs _).allocs _) ((((H1.out.allocs _).allocs _).allocs _).allocs _) HM.out ?_ ?_).mono ?_
  · simp [go_sem]
  · simp [go_sem]
  rintro e w2 ⟨v2, rfl, hv2, hb2⟩
  have HB2 := Lib.hid hb2
  obtain ⟨ob, cap, rfl, -, hR⟩ := hv2
  have HR := Lib.hid hR
  rw [HAP.out]
  clear hb2 hR
  go_wp2_with fail
  refine (of_any ob (l0 ++ l1) (n0 + n1) cap w2 HAP.out hl HR.out).mono ?_
  rintro e w3 ⟨v3, o, rfl, hof, hv3, hnew, hb3⟩
  have HB3 := Lib.hid (HB2.out.trans (hb3.mono HB2.out.size))
  have HOR := Lib.hid (hof.or HN0.out HN1.out)
  have HV3 := Lib.hid hv3
  have HSZ := Lib.hid HB2.out.size
  have HNW := Lib.hid hnew
  have hc1 := HB3.out.cell (p := ⟨w.heap.size + 1 + 1, 0, none⟩) (by simp [go_sem])
  have hc2 := HB3.out.frozen (p := ⟨w.heap.size + 1 + 1, 0, none⟩) (by simp [go_sem])
  have hc3 := HB3.out.size
  simp [go_sem] at hc1 hc2 hc3
  obtain ⟨ob3, cap3, rfl, -, -⟩ := id hv3
  obtain ⟨n3, hn3⟩ : ∃ n, o.length = n := ⟨_, rfl⟩
  rw [hn3] at HV3 HNW
  have HN3 := Lib.hid hn3
  rw [hn3]
  clear hof hv3 hnew hb3 hn3
  go_wp2_with fail
  have z0 : (w3.setCell ⟨w.heap.size + 1 + 1, 0, none⟩ (.slice ob3 n3 cap3)).cell? ⟨w.heap.size + 1 + 1, 0, none⟩ = some (.slice ob3 n3 cap3) := World.cell?_setCell_same _ _ _ hc1
  refine bodyPost_ret (v := .agg #[.slice ob3 n3 cap3]) (by simp [results, Try.results15, go_sem, z0]) rfl ⟨.slice ob3 n3 cap3, o, rfl, HOR.out, ?_, ?_, ?_⟩
  · refine HV3.out.far (fun a c nn h e => ?_) _ _
    have h1 := HNW.out a nn c h
    have h2 := HSZ.out
    simp at h2
    omega
  · intro a nn c h
    have h1 := HNW.out a nn c h
    have h2 := HSZ.out
    simp at h2
    omega
  · have h1 := Below.alloc (Below.alloc (Below.alloc (Below.refl w.heap.size w) (Nat.le_refl _) (.cells #[.slice ob0 n0 cap0] 25)) (by simp) (.cells #[.slice ob1 n1 cap1] 25)) (by simp; omega) (.cells #[.slice none 0 0] 25)
    have h2 := h1.alloc (by simp; omega) (.cells #[.slice ob0 n0 cap0, .slice ob1 n1 cap1] 22)
    exact (h2.trans (HB3.out.mono (by simp; omega))).setCell (p := ⟨w.heap.size + 1 + 1, 0, none⟩) (by simp; omega) _
end Go.Proofs.Ytikhjlankomghaa
