/- The plain package's calls on sets (printed by genMomK.py). -/
import Derived.Test.YtbmndenopgkpoaaDoorMomI
namespace Go.Proofs.YtbmndenopgkpoaaDoor
open Go.RowKit
/-- What a call on sets answers: a set. -/
def TimR (P : List Iv → Prop) (w : World) (e : Ending) (w' : World) : Prop := ∃ v o, e = .returned (.agg #[v]) ∧ P o ∧ IvS w' v o ∧ NewV w.heap.size v ∧ Below w.heap.size w w'
set_option maxRecDepth 100000 in
set_option maxHeartbeats 4000000 in
theorem pand_any (v0 v1 : Value) (la lb : List Iv) (w : World) (h0 : IvS w v0 la) (h1 : IvS w v1 lb) (hl : la.length * lb.length ≤ 1000000000) (ha : la.length ≤ 1000000000) (hbb : lb.length ≤ 1000000000) (hn0 : Norm la) :
    Calls Tryd.prog 13 #[.agg #[v0], .agg #[v1]] w (TimR (AndM la lb) w) := by
  have H0 := Lib.hid h0
  obtain ⟨ob0, cap0, rfl, -, -⟩ := id h0
  have H1 := Lib.hid h1
  obtain ⟨ob1, cap1, rfl, -, -⟩ := id h1
  obtain ⟨n0, hm0⟩ : ∃ n, la.length = n := ⟨_, rfl⟩
  rw [hm0] at H0 ⊢
  obtain ⟨n1, hm1⟩ : ∃ n, lb.length = n := ⟨_, rfl⟩
  rw [hm1] at H1 ⊢
  have HB0 := Lib.hid (Below.alloc (Below.alloc (Below.alloc (Below.refl w.heap.size w) (Nat.le_refl _) (.cells #[.slice ob0 n0 cap0] 33)) (by simp) (.cells #[.slice ob1 n1 cap1] 33)) (by simp; omega) (.cells #[.slice none 0 0] 33))
  have hcon := fun w' (hb : Below w.heap.size w w') => and_any _ _ la lb w' (H0.out.call hb) (H1.out.call hb) hl ha hbb hn0
  have HCON := Lib.hid hcon
  clear hcon
  clear h0 h1 hm0 hm1
  go_enter Tryd.func13, Tryd.ntmps13
  go_wp2_with fail
  refine (HCON.out _ HB0.out).mono ?_
  rintro e w3 ⟨v3, o3, rfl, hP, hv3, hnw, hb3⟩
  have HP := Lib.hid hP
  have HV3 := Lib.hid hv3
  have HNW := Lib.hid hnw
  have HB3 := Lib.hid (thenB HB0.out hb3)
  have hc1 := hb3.cell (p := ⟨w.heap.size + 1 + 1, 0, none⟩) (by simp [go_sem])
  have hc2 := hb3.frozen (p := ⟨w.heap.size + 1 + 1, 0, none⟩) (by simp [go_sem])
  have hc3 := hb3.size
  simp [go_sem] at hc1 hc2 hc3
  obtain ⟨ob3, cap3, rfl, -, -⟩ := id hv3
  obtain ⟨n3, hn3⟩ : ∃ n, o3.length = n := ⟨_, rfl⟩
  rw [hn3] at HV3 HNW
  rw [hn3]
  clear hP hv3 hnw hb3 hn3
  go_wp2_with fail
  have z0 : (w3.setCell ⟨w.heap.size + 1 + 1, 0, none⟩ (.slice ob3 n3 cap3)).cell? ⟨w.heap.size + 1 + 1, 0, none⟩ = some (.slice ob3 n3 cap3) := World.cell?_setCell_same _ _ _ hc1
  refine bodyPost_ret (v := .agg #[.slice ob3 n3 cap3]) (by simp [results, Tryd.results13, go_sem, z0]) rfl ⟨.slice ob3 n3 cap3, o3, rfl, HP.out, ?_, ?_, ?_⟩
  · refine HV3.out.far (fun a c nn h e => ?_) _ _
    have h1 := HNW.out a nn c h
    simp at h1
    omega
  · intro a nn c h
    have h1 := HNW.out a nn c h
    simp at h1
    omega
  · exact HB3.out.setCell (p := ⟨w.heap.size + 1 + 1, 0, none⟩) (by show w.heap.size ≤ w.heap.size + 1 + 1; omega) _
end Go.Proofs.YtbmndenopgkpoaaDoor
