/- TimesOf, Has, Spans; lists held against each other. -/
import Derived.Test.YtbmndenopgkpoaaDoorMomK
namespace Go.Proofs.YtbmndenopgkpoaaDoor
open Go.RowKit
set_option maxRecDepth 100000 in
set_option maxHeartbeats 4000000 in
theorem ptimes_any (v0 : Value) (la : List Iv) (w : World) (h0 : IvS w v0 la) (hl : la.length ≤ 1000000000) :
    Calls Tryd.prog 5 #[v0] w (TimR (OfM la) w) := by
  obtain ⟨ob0, cap0, rfl, -, hR⟩ := h0
  obtain ⟨n0, hm0⟩ : ∃ n, la.length = n := ⟨_, rfl⟩
  rw [hm0] at hl ⊢
  have HB0 := Lib.hid (Below.alloc (Below.refl w.heap.size w) (Nat.le_refl _) (.cells #[.slice none 0 0] 33))
  have hcon := fun w' (hb : Below w.heap.size w w') => of_any ob0 la n0 cap0 w' hm0 hl (hR.call hb)
  have HCON := Lib.hid hcon
  clear hcon hR hm0
  go_enter Tryd.func5, Tryd.ntmps5
  go_wp2_with fail
  refine (HCON.out _ HB0.out).mono ?_
  rintro e w3 ⟨v3, o3, rfl, hP, hv3, hnw, hb3⟩
  have HP := Lib.hid hP
  have HV3 := Lib.hid hv3
  have HNW := Lib.hid hnw
  have HB3 := Lib.hid (thenB HB0.out hb3)
  have hc1 := hb3.cell (p := ⟨w.heap.size, 0, none⟩) (by simp [go_sem])
  have hc2 := hb3.frozen (p := ⟨w.heap.size, 0, none⟩) (by simp [go_sem])
  have hc3 := hb3.size
  simp [go_sem] at hc1 hc2 hc3
  obtain ⟨ob3, cap3, rfl, -, -⟩ := id hv3
  obtain ⟨n3, hn3⟩ : ∃ n, o3.length = n := ⟨_, rfl⟩
  rw [hn3] at HV3 HNW
  rw [hn3]
  clear hP hv3 hnw hb3 hn3
  go_wp2_with fail
  have z0 : (w3.setCell ⟨w.heap.size, 0, none⟩ (.slice ob3 n3 cap3)).cell? ⟨w.heap.size, 0, none⟩ = some (.slice ob3 n3 cap3) := World.cell?_setCell_same _ _ _ hc1
  refine bodyPost_ret (v := .agg #[.slice ob3 n3 cap3]) (by simp [results, Tryd.results5, go_sem, z0]) rfl ⟨.slice ob3 n3 cap3, o3, rfl, HP.out, ?_, ?_, ?_⟩
  · refine HV3.out.far (fun a c nn h e => ?_) _ _
    have h1 := HNW.out a nn c h
    simp at h1
    omega
  · intro a nn c h
    have h1 := HNW.out a nn c h
    simp at h1
    omega
  · exact HB3.out.setCell (p := ⟨w.heap.size, 0, none⟩) (by show w.heap.size ≤ w.heap.size; omega) _
theorem inL_take {l : List Iv} {k : Nat} (h : k < l.length) (x : Int) : InL (l.take (k + 1)) x ↔ InL (l.take k) x ∨ ((l.getD k iv0).1 ≤ x ∧ x < (l.getD k iv0).2) := by
  rw [List.take_add_one, iv_get h, inL_append]
  show _ ∨ InL [l.getD k iv0] x ↔ _
  rw [inL_one]
set_option maxHeartbeats 1000000 in
theorem spans_any (v0 : Value) (l : List Iv) (w : World) (h0 : IvS w v0 l) (hl : l.length ≤ 1000000000) :
    Calls Tryd.prog 26 #[.agg #[v0]] w fun e w' => ∃ v', e = .returned v' ∧ IvS w' v' l ∧ Below w.heap.size w w' := by
  have H0 := Lib.hid h0
  have HL := Lib.hid hl
  obtain ⟨ob, cap, rfl, -, -⟩ := h0
  obtain ⟨n, hm⟩ : ∃ n, l.length = n := ⟨_, rfl⟩
  rw [hm] at H0 ⊢
  clear hm hl
  have HB0 := Lib.hid (Below.alloc (Below.refl w.heap.size w) (Nat.le_refl _) (.cells #[.slice ob n cap] 31))
  go_enter Tryd.func26, Tryd.ntmps26
  go_wp2_with fail
  refine (clone_any _ l _ HL.out (H0.out.call HB0.out)).mono ?_
  rintro e w2 ⟨v2, rfl, hv2, hb⟩
  have HV2 := Lib.hid hv2
  have HB2 := Lib.hid (thenB HB0.out hb)
  clear hv2 hb
  go_wp2_with fail
  go_ret
  exact ⟨_, rfl, HV2.out, HB2.out⟩
set_option maxHeartbeats 1000000 in
theorem pspans_any (v0 : Value) (l : List Iv) (w : World) (h0 : IvS w v0 l) (hl : l.length ≤ 1000000000) :
    Calls Tryd.prog 14 #[.agg #[v0]] w fun e w' => ∃ v', e = .returned v' ∧ IvS w' v' l ∧ Below w.heap.size w w' := by
  have H0 := Lib.hid h0
  have HL := Lib.hid hl
  obtain ⟨ob, cap, rfl, -, -⟩ := h0
  obtain ⟨n, hm⟩ : ∃ n, l.length = n := ⟨_, rfl⟩
  rw [hm] at H0 ⊢
  clear hm hl
  have HB0 := Lib.hid (Below.alloc (Below.refl w.heap.size w) (Nat.le_refl _) (.cells #[.slice ob n cap] 33))
  go_enter Tryd.func14, Tryd.ntmps14
  go_wp2_with fail
  refine (spans_any _ l _ (H0.out.call HB0.out) HL.out).mono ?_
  rintro e w2 ⟨v2, rfl, hv2, hb⟩
  have HV2 := Lib.hid hv2
  have HB2 := Lib.hid (thenB HB0.out hb)
  clear hv2 hb
  go_wp2_with fail
  go_ret
  exact ⟨_, rfl, HV2.out, HB2.out⟩
end Go.Proofs.YtbmndenopgkpoaaDoor
