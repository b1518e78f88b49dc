/- The document's months of the seventh calendar. -/
import Derived.Test.YtbgcccfgcdkmdaaGreatDoorDaysG
import Derived.Test.YtbgcccfgcdkmdaaGreatDoorAppend
namespace Go.Proofs.YtbgcccfgcdkmdaaGreatDoor
open Go.RowKit
theorem Tryz.info3 : (Tryz.prog.info? 3).map (fun i => (i.zero, i.size, i.bytes)) = some (some (.int .i64 0), 1, 8) := by kernel_rfl
theorem grown_off {B : Nat} {w w' : World} (h : Below B w w') (hB : B ≤ w.heap.size) {x : World} {r : Option Nat} (hg : w'.grownBy x r) (hr : ∀ k, r = some k → B ≤ k) : Below B w x := h.grown hg (Nat.le_trans hB h.size) hr
/-- Cells of an old block in a later world. -/
theorem cells_old {B : Nat} {w w' : World} (h : Below B w w') {b : Nat} (hb : b < B) (off : Nat) (news : List Value) (hc : ∀ j u, news[j]? = some u → w.cell? ⟨b, off + j, none⟩ = some u) : ∀ j u, news[j]? = some u → w'.cell? ((⟨b, off, none⟩ : Addr).add j) = some u := by
  intro j u hj
  rw [Addr.add_lit]
  exact (h.cell (p := ⟨b, off + j, none⟩) hb).trans (hc j u hj)
theorem lens_own {c y : Int} {w w3 : World} {base : Nat} {v : Value} {n : Nat} (xs : List Int) {T : TypeId} {vs : List Value} (hown : w3.ownsRow base T 1 v n vs) (hv : vs = xs.map (Value.int .i64)) (hn : (xs.length : Int) = Dm.months c y)
    (hx : ∀ i : Nat, i < 13 → xs[i]? = some (Dm.length c y (i + 1))) (hb : w.heap.size ≤ base) (hB : Below w.heap.size w w3) : LensPost c y w (.returned v) w3 := by
  subst hv
  have hl := hown.1
  simp only [List.length_map, Nat.mul_one] at hl
  subst hl
  have hm := Dm.months_lo c y
  have hk := hown
  obtain ⟨_, h⟩ := hown
  rcases h with ⟨_, h⟩ | ⟨g, cap, cur, rfl, h1, h2, _⟩
  · exfalso; omega
  · have hlt : g < w3.heap.size := by
      rcases Nat.lt_or_ge g w3.heap.size with h | h
      · exact h
      · rw [Array.getElem?_eq_none h] at h2; cases h2
    refine ⟨g, xs.length, cap, rfl, hn, Nat.le_trans hb h1, hlt, fun i hi => ?_, hB⟩
    rw [hk.cellAt i (by omega)]
    simp [hx i (by omega)]
set_option maxHeartbeats 4000000 in
theorem Lengths_7t383 (y : Int) (w : World) (h1 : -20090 ≤ y) (h2 : y ≤ 20890) (hL : Dm.leap 7 y = true) (hk : Dm.start 7 (y + 1) - Dm.start 7 y = 383) : Calls Tryz.prog 69 #[.int .i64 7, .int .i64 y] w (LensPost 7 y w) := by
  have hLL : Dm.hLeap y = true := hL
  have HLL := Lib.hid hLL; clear hLL
  have HL := Lib.hid hL; clear hL
  have b1 := hStart_bd y (by omega) (by omega)
  have b2 := hStart_bd (y + 1) (by omega) (by omega)
  obtain ⟨i0, hi, hz0, hz1, hz2⟩ := info_parts Tryz.info3
  have HI := Lib.hid (And.intro hi (And.intro hz0 (And.intro hz1 hz2))); clear hi hz0 hz1 hz2
  go_enter Tryz.func69, Tryz.ntmps69
  go_wp2_with fail
  refine (LeapYear_any _ _ _ (by omega) (by omega) (by omega) (by omega)).mono ?_; rintro e w' ⟨rfl, rfl⟩
  rw [HL.out]
  go_wp2_with (go_at_call 77; refine (hebrew_any _ _ (by omega) (by omega)).mono ?_; rintro e w' ⟨rfl, rfl⟩)
  have HK := Lib.hid hk; clear hk
  generalize hw0 : w.alloc (.cells _ 3) = w0
  have hz : w0.heap.size = w.heap.size + 1 := by rw [← hw0]; simp
  have hB0 : Below w.heap.size w w0 := by rw [← hw0]; exact (Below.refl _ _).alloc (Nat.le_refl _) _
  have hL5 : ∀ j u, ([.int .i64 30, .int .i64 29, .int .i64 29, .int .i64 29, .int .i64 30] : List Value)[j]? = some u → w0.cell? ⟨w.heap.size, 0 + j, none⟩ = some u := by
    rw [← hw0]; intro j u hj; rw [World.cell?_alloc_at _ _ _ _ (by simp)]
    match j, hj with
    | 0, hj => simpa using hj
    | 1, hj => simpa using hj
    | 2, hj => simpa using hj
    | 3, hj => simpa using hj
    | 4, hj => simpa using hj
  have hL7 : ∀ j u, ([.int .i64 29, .int .i64 30, .int .i64 29, .int .i64 30, .int .i64 29, .int .i64 30, .int .i64 29] : List Value)[j]? = some u → w0.cell? ⟨w.heap.size, 5 + j, none⟩ = some u := by
    rw [← hw0]; intro j u hj; rw [World.cell?_alloc_at _ _ _ _ (by simp)]
    match j, hj with
    | 0, hj => simpa using hj
    | 1, hj => simpa using hj
    | 2, hj => simpa using hj
    | 3, hj => simpa using hj
    | 4, hj => simpa using hj
    | 5, hj => simpa using hj
    | 6, hj => simpa using hj
  have HH := Lib.hid (And.intro hz (And.intro hB0 (And.intro hL5 hL7))); clear hz hB0 hL5 hL7 hw0
  go_region_law (first
    | (refine step_append_own rfl (.tmp 60) (.tmp 62) 27 rfl w0.heap.size 3 i0 (.int .i64 0) 1 8 Tryz.underlying27 HI.out.1 HI.out.2.1 HI.out.2.2.1 HI.out.2.2.2 rfl (by decide) (.slice (some ⟨w0.heap.size, 0, none⟩) 0 0) 0 [] (by simp [Act.eval]) ?_ ⟨w.heap.size, 0, none⟩ 5 12 [.int .i64 30, .int .i64 29, .int .i64 29, .int .i64 29, .int .i64 30] (by simp [Act.eval]) rfl ?_ (by simp [Value.oneCell']) (by decide) (by decide) (by first | (simp; done) | (simp; omega)) ?_
       · first | exact World.ownsRow.drew (own_empty _ _ _ _ (by simp)) | exact World.ownsRow.drew ((own_empty _ _ _ _ (by simp)).alloc _) | (have h := own_empty (w0.alloc (.cells #[.int .i64 30] 3)) w0.heap.size 3 1 (by simp); simp only [World.size_alloc] at h; exact World.ownsRow.drew h)
       · exact cells_old (B := w0.heap.size) (by repeat (first | with_reducible exact Below.refl _ _ | with_reducible exact hb1.out | with_reducible exact hb2.out | (with_reducible refine Below.drew ?_) | (with_reducible refine Below.alloc ?_ (by first | exact Nat.le_refl _ | (simp <;> omega)) _))) (by have := HH.out.1; omega) 0 _ HH.out.2.2.1
       intro v1 w1 hown1 hg1 _
       have hb1 := Lib.hid (Below.grown (B := w0.heap.size) (a := w0) (by repeat (first | with_reducible exact Below.refl _ _ | with_reducible exact hb1.out | with_reducible exact hb2.out | (with_reducible refine Below.drew ?_) | (with_reducible refine Below.alloc ?_ (by first | exact Nat.le_refl _ | (simp <;> omega)) _))) hg1 (by first | (simp; done) | (simp; omega)) (by intro k hk; simp [Value.ownBlock] at hk; omega))
       have hG1 := Lib.hid hg1
       clear hg1)
    | (refine step_append_own rfl (.tmp 60) (.tmp 62) 27 rfl w0.heap.size 3 i0 (.int .i64 0) 1 8 Tryz.underlying27 HI.out.1 HI.out.2.1 HI.out.2.2.1 HI.out.2.2.2 rfl (by decide) (.slice (some ⟨w0.heap.size + 1, 0, none⟩) 0 0) 0 [] (by simp [Act.eval]) ?_ ⟨w.heap.size, 0, none⟩ 5 12 [.int .i64 30, .int .i64 29, .int .i64 29, .int .i64 29, .int .i64 30] (by simp [Act.eval]) rfl ?_ (by simp [Value.oneCell']) (by decide) (by decide) (by first | (simp; done) | (simp; omega)) ?_
       · first | exact World.ownsRow.drew (own_empty _ _ _ _ (by simp)) | exact World.ownsRow.drew ((own_empty _ _ _ _ (by simp)).alloc _) | (have h := own_empty (w0.alloc (.cells #[.int .i64 30] 3)) w0.heap.size 3 1 (by simp); simp only [World.size_alloc] at h; exact World.ownsRow.drew h)
       · exact cells_old (B := w0.heap.size) (by repeat (first | with_reducible exact Below.refl _ _ | with_reducible exact hb1.out | with_reducible exact hb2.out | (with_reducible refine Below.drew ?_) | (with_reducible refine Below.alloc ?_ (by first | exact Nat.le_refl _ | (simp <;> omega)) _))) (by have := HH.out.1; omega) 0 _ HH.out.2.2.1
       intro v1 w1 hown1 hg1 _
       have hb1 := Lib.hid (Below.grown (B := w0.heap.size) (a := w0) (by repeat (first | with_reducible exact Below.refl _ _ | with_reducible exact hb1.out | with_reducible exact hb2.out | (with_reducible refine Below.drew ?_) | (with_reducible refine Below.alloc ?_ (by first | exact Nat.le_refl _ | (simp <;> omega)) _))) hg1 (by first | (simp; done) | (simp; omega)) (by intro k hk; simp [Value.ownBlock] at hk; omega))
       have hG1 := Lib.hid hg1
       clear hg1)
    | (refine step_append_own rfl (.tmp 63) (.tmp 64) 27 rfl w0.heap.size 3 i0 (.int .i64 0) 1 8 Tryz.underlying27 HI.out.1 HI.out.2.1 HI.out.2.2.1 HI.out.2.2.2 rfl (by decide) v1 5 [.int .i64 30, .int .i64 29, .int .i64 29, .int .i64 29, .int .i64 30] (by simp [Act.eval]) ?_ ⟨w1.heap.size, 0, none⟩ 1 1 [.int .i64 30] (by simp [Act.eval]) rfl ?_ (by simp [Value.oneCell']) (by decide) (by decide) (by have := hb1.out.size; first | omega | (simp; omega)) ?_
       · first | exact hown1 | exact hown1.alloc _
       · exact cells_here _ [.int .i64 30] 3
       intro v2 w2 hown2 hg2 _
       have hb2 := Lib.hid (Below.grown (B := w0.heap.size) (a := w0) (by first | exact hb1.out | exact hb1.out.alloc hb1.out.size _) hg2 (by have := hb1.out.size; first | omega | (simp; omega)) (fun k hk => (hown1.lt k hk).1))
       clear hg2)
    | (refine step_append_own rfl (.tmp 63) (.tmp 64) 27 rfl w0.heap.size 3 i0 (.int .i64 0) 1 8 Tryz.underlying27 HI.out.1 HI.out.2.1 HI.out.2.2.1 HI.out.2.2.2 rfl (by decide) v1 5 [.int .i64 30, .int .i64 29, .int .i64 29, .int .i64 29, .int .i64 30] (by simp [Act.eval]) ?_ ⟨w0.heap.size + 1, 0, none⟩ 1 1 [.int .i64 30] (by simp [Act.eval]) rfl ?_ (by simp [Value.oneCell']) (by decide) (by decide) (by have := hb1.out.size; first | omega | (simp; omega)) ?_
       · first | exact hown1 | exact hown1.alloc _
       · intro j u hj
         have h := cells_here (w0.alloc (.cells #[] 3)) [.int .i64 30] 3 j u hj
         rw [Addr.add_lit] at h ⊢
         simp only [World.size_alloc] at h
         exact (World.cell?_of_block (hG1.out.block (w0.heap.size + 1) (by simp) (by simp [Value.ownBlock]))).trans h
       intro v2 w2 hown2 hg2 _
       have hb2 := Lib.hid (Below.grown (B := w0.heap.size) (a := w0) (by first | exact hb1.out | exact hb1.out.alloc hb1.out.size _) hg2 (by have := hb1.out.size; first | omega | (simp; omega)) (fun k hk => (hown1.lt k hk).1))
       clear hg2)
    | (refine step_append_own rfl (.tmp 63) (.tmp 64) 27 rfl w0.heap.size 3 i0 (.int .i64 0) 1 8 Tryz.underlying27 HI.out.1 HI.out.2.1 HI.out.2.2.1 HI.out.2.2.2 rfl (by decide) v1 5 [.int .i64 30, .int .i64 29, .int .i64 29, .int .i64 29, .int .i64 30] (by simp [Act.eval]) ?_ ⟨w0.heap.size, 0, none⟩ 1 1 [.int .i64 30] (by simp [Act.eval]) rfl ?_ (by simp [Value.oneCell']) (by decide) (by decide) (by have := hb1.out.size; first | omega | (simp; omega)) ?_
       · first | exact hown1 | exact hown1.alloc _
       · intro j u hj
         have h := cells_here w0 [.int .i64 30] 3 j u hj
         rw [Addr.add_lit] at h ⊢
         exact (World.cell?_of_block (hG1.out.block w0.heap.size (by simp <;> omega) (by simp [Value.ownBlock]))).trans ((cell_alloc (by simp)).trans h)
       intro v2 w2 hown2 hg2 _
       have hb2 := Lib.hid (Below.grown (B := w0.heap.size) (a := w0) (by first | exact hb1.out | exact hb1.out.alloc hb1.out.size _) hg2 (by have := hb1.out.size; first | omega | (simp; omega)) (fun k hk => (hown1.lt k hk).1))
       clear hg2)
    | (refine step_append_own rfl (.tmp 65) (.tmp 67) 27 rfl w0.heap.size 3 i0 (.int .i64 0) 1 8 Tryz.underlying27 HI.out.1 HI.out.2.1 HI.out.2.2.1 HI.out.2.2.2 rfl (by decide) v2 6 _ (by simp [Act.eval]) hown2 ⟨w.heap.size, 5, none⟩ 7 7 [.int .i64 29, .int .i64 30, .int .i64 29, .int .i64 30, .int .i64 29, .int .i64 30, .int .i64 29] (by simp [Act.eval]) rfl ?_ (by simp [Value.oneCell']) (by decide) (by decide) hb2.out.size ?_
       · exact cells_old (B := w0.heap.size) hb2.out (by have := HH.out.1; omega) 5 _ HH.out.2.2.2
       intro v3 w3 hown3 hg3 _
       have hb3 := Lib.hid (Below.grown (B := w0.heap.size) (a := w0) hb2.out hg3 hb2.out.size (fun k hk => (hown2.lt k hk).1))
       clear hg3))
  all_goals go_wp2
  all_goals go_ret
  all_goals exact lens_own [30, 29, 29, 29, 30, 30, 29, 30, 29, 30, 29, 30, 29] hown3 rfl (by simp [Dm.months, HLL.out]) (upto13 (by simp [hebL, HL.out, HK.out, hebF])) (by have := HH.out.1; omega) (HH.out.2.1.trans (hb3.out.mono (by have := HH.out.1; omega)))
set_option maxHeartbeats 4000000 in
theorem Lengths_7t384 (y : Int) (w : World) (h1 : -20090 ≤ y) (h2 : y ≤ 20890) (hL : Dm.leap 7 y = true) (hk : Dm.start 7 (y + 1) - Dm.start 7 y = 384) : Calls Tryz.prog 69 #[.int .i64 7, .int .i64 y] w (LensPost 7 y w) := by
  have hLL : Dm.hLeap y = true := hL
  have HLL := Lib.hid hLL; clear hLL
  have HL := Lib.hid hL; clear hL
  have b1 := hStart_bd y (by omega) (by omega)
  have b2 := hStart_bd (y + 1) (by omega) (by omega)
  obtain ⟨i0, hi, hz0, hz1, hz2⟩ := info_parts Tryz.info3
  have HI := Lib.hid (And.intro hi (And.intro hz0 (And.intro hz1 hz2))); clear hi hz0 hz1 hz2
  go_enter Tryz.func69, Tryz.ntmps69
  go_wp2_with fail
  refine (LeapYear_any _ _ _ (by omega) (by omega) (by omega) (by omega)).mono ?_; rintro e w' ⟨rfl, rfl⟩
  rw [HL.out]
  go_wp2_with (go_at_call 77; refine (hebrew_any _ _ (by omega) (by omega)).mono ?_; rintro e w' ⟨rfl, rfl⟩)
  have HK := Lib.hid hk; clear hk
  generalize hw0 : w.alloc (.cells _ 3) = w0
  have hz : w0.heap.size = w.heap.size + 1 := by rw [← hw0]; simp
  have hB0 : Below w.heap.size w w0 := by rw [← hw0]; exact (Below.refl _ _).alloc (Nat.le_refl _) _
  have hL5 : ∀ j u, ([.int .i64 30, .int .i64 29, .int .i64 30, .int .i64 29, .int .i64 30] : List Value)[j]? = some u → w0.cell? ⟨w.heap.size, 0 + j, none⟩ = some u := by
    rw [← hw0]; intro j u hj; rw [World.cell?_alloc_at _ _ _ _ (by simp)]
    match j, hj with
    | 0, hj => simpa using hj
    | 1, hj => simpa using hj
    | 2, hj => simpa using hj
    | 3, hj => simpa using hj
    | 4, hj => simpa using hj
  have hL7 : ∀ j u, ([.int .i64 29, .int .i64 30, .int .i64 29, .int .i64 30, .int .i64 29, .int .i64 30, .int .i64 29] : List Value)[j]? = some u → w0.cell? ⟨w.heap.size, 5 + j, none⟩ = some u := by
    rw [← hw0]; intro j u hj; rw [World.cell?_alloc_at _ _ _ _ (by simp)]
    match j, hj with
    | 0, hj => simpa using hj
    | 1, hj => simpa using hj
    | 2, hj => simpa using hj
    | 3, hj => simpa using hj
    | 4, hj => simpa using hj
    | 5, hj => simpa using hj
    | 6, hj => simpa using hj
  have HH := Lib.hid (And.intro hz (And.intro hB0 (And.intro hL5 hL7))); clear hz hB0 hL5 hL7 hw0
  go_region_law (first
    | (refine step_append_own rfl (.tmp 60) (.tmp 62) 27 rfl w0.heap.size 3 i0 (.int .i64 0) 1 8 Tryz.underlying27 HI.out.1 HI.out.2.1 HI.out.2.2.1 HI.out.2.2.2 rfl (by decide) (.slice (some ⟨w0.heap.size, 0, none⟩) 0 0) 0 [] (by simp [Act.eval]) ?_ ⟨w.heap.size, 0, none⟩ 5 12 [.int .i64 30, .int .i64 29, .int .i64 30, .int .i64 29, .int .i64 30] (by simp [Act.eval]) rfl ?_ (by simp [Value.oneCell']) (by decide) (by decide) (by first | (simp; done) | (simp; omega)) ?_
       · first | exact World.ownsRow.drew (own_empty _ _ _ _ (by simp)) | exact World.ownsRow.drew ((own_empty _ _ _ _ (by simp)).alloc _) | (have h := own_empty (w0.alloc (.cells #[.int .i64 30] 3)) w0.heap.size 3 1 (by simp); simp only [World.size_alloc] at h; exact World.ownsRow.drew h)
       · exact cells_old (B := w0.heap.size) (by repeat (first | with_reducible exact Below.refl _ _ | with_reducible exact hb1.out | with_reducible exact hb2.out | (with_reducible refine Below.drew ?_) | (with_reducible refine Below.alloc ?_ (by first | exact Nat.le_refl _ | (simp <;> omega)) _))) (by have := HH.out.1; omega) 0 _ HH.out.2.2.1
       intro v1 w1 hown1 hg1 _
       have hb1 := Lib.hid (Below.grown (B := w0.heap.size) (a := w0) (by repeat (first | with_reducible exact Below.refl _ _ | with_reducible exact hb1.out | with_reducible exact hb2.out | (with_reducible refine Below.drew ?_) | (with_reducible refine Below.alloc ?_ (by first | exact Nat.le_refl _ | (simp <;> omega)) _))) hg1 (by first | (simp; done) | (simp; omega)) (by intro k hk; simp [Value.ownBlock] at hk; omega))
       have hG1 := Lib.hid hg1
       clear hg1)
    | (refine step_append_own rfl (.tmp 60) (.tmp 62) 27 rfl w0.heap.size 3 i0 (.int .i64 0) 1 8 Tryz.underlying27 HI.out.1 HI.out.2.1 HI.out.2.2.1 HI.out.2.2.2 rfl (by decide) (.slice (some ⟨w0.heap.size + 1, 0, none⟩) 0 0) 0 [] (by simp [Act.eval]) ?_ ⟨w.heap.size, 0, none⟩ 5 12 [.int .i64 30, .int .i64 29, .int .i64 30, .int .i64 29, .int .i64 30] (by simp [Act.eval]) rfl ?_ (by simp [Value.oneCell']) (by decide) (by decide) (by first | (simp; done) | (simp; omega)) ?_
       · first | exact World.ownsRow.drew (own_empty _ _ _ _ (by simp)) | exact World.ownsRow.drew ((own_empty _ _ _ _ (by simp)).alloc _) | (have h := own_empty (w0.alloc (.cells #[.int .i64 30] 3)) w0.heap.size 3 1 (by simp); simp only [World.size_alloc] at h; exact World.ownsRow.drew h)
       · exact cells_old (B := w0.heap.size) (by repeat (first | with_reducible exact Below.refl _ _ | with_reducible exact hb1.out | with_reducible exact hb2.out | (with_reducible refine Below.drew ?_) | (with_reducible refine Below.alloc ?_ (by first | exact Nat.le_refl _ | (simp <;> omega)) _))) (by have := HH.out.1; omega) 0 _ HH.out.2.2.1
       intro v1 w1 hown1 hg1 _
       have hb1 := Lib.hid (Below.grown (B := w0.heap.size) (a := w0) (by repeat (first | with_reducible exact Below.refl _ _ | with_reducible exact hb1.out | with_reducible exact hb2.out | (with_reducible refine Below.drew ?_) | (with_reducible refine Below.alloc ?_ (by first | exact Nat.le_refl _ | (simp <;> omega)) _))) hg1 (by first | (simp; done) | (simp; omega)) (by intro k hk; simp [Value.ownBlock] at hk; omega))
       have hG1 := Lib.hid hg1
       clear hg1)
    | (refine step_append_own rfl (.tmp 63) (.tmp 64) 27 rfl w0.heap.size 3 i0 (.int .i64 0) 1 8 Tryz.underlying27 HI.out.1 HI.out.2.1 HI.out.2.2.1 HI.out.2.2.2 rfl (by decide) v1 5 [.int .i64 30, .int .i64 29, .int .i64 30, .int .i64 29, .int .i64 30] (by simp [Act.eval]) ?_ ⟨w1.heap.size, 0, none⟩ 1 1 [.int .i64 30] (by simp [Act.eval]) rfl ?_ (by simp [Value.oneCell']) (by decide) (by decide) (by have := hb1.out.size; first | omega | (simp; omega)) ?_
       · first | exact hown1 | exact hown1.alloc _
       · exact cells_here _ [.int .i64 30] 3
       intro v2 w2 hown2 hg2 _
       have hb2 := Lib.hid (Below.grown (B := w0.heap.size) (a := w0) (by first | exact hb1.out | exact hb1.out.alloc hb1.out.size _) hg2 (by have := hb1.out.size; first | omega | (simp; omega)) (fun k hk => (hown1.lt k hk).1))
       clear hg2)
    | (refine step_append_own rfl (.tmp 63) (.tmp 64) 27 rfl w0.heap.size 3 i0 (.int .i64 0) 1 8 Tryz.underlying27 HI.out.1 HI.out.2.1 HI.out.2.2.1 HI.out.2.2.2 rfl (by decide) v1 5 [.int .i64 30, .int .i64 29, .int .i64 30, .int .i64 29, .int .i64 30] (by simp [Act.eval]) ?_ ⟨w0.heap.size + 1, 0, none⟩ 1 1 [.int .i64 30] (by simp [Act.eval]) rfl ?_ (by simp [Value.oneCell']) (by decide) (by decide) (by have := hb1.out.size; first | omega | (simp; omega)) ?_
       · first | exact hown1 | exact hown1.alloc _
       · intro j u hj
         have h := cells_here (w0.alloc (.cells #[] 3)) [.int .i64 30] 3 j u hj
         rw [Addr.add_lit] at h ⊢
         simp only [World.size_alloc] at h
         exact (World.cell?_of_block (hG1.out.block (w0.heap.size + 1) (by simp) (by simp [Value.ownBlock]))).trans h
       intro v2 w2 hown2 hg2 _
       have hb2 := Lib.hid (Below.grown (B := w0.heap.size) (a := w0) (by first | exact hb1.out | exact hb1.out.alloc hb1.out.size _) hg2 (by have := hb1.out.size; first | omega | (simp; omega)) (fun k hk => (hown1.lt k hk).1))
       clear hg2)
    | (refine step_append_own rfl (.tmp 63) (.tmp 64) 27 rfl w0.heap.size 3 i0 (.int .i64 0) 1 8 Tryz.underlying27 HI.out.1 HI.out.2.1 HI.out.2.2.1 HI.out.2.2.2 rfl (by decide) v1 5 [.int .i64 30, .int .i64 29, .int .i64 30, .int .i64 29, .int .i64 30] (by simp [Act.eval]) ?_ ⟨w0.heap.size, 0, none⟩ 1 1 [.int .i64 30] (by simp [Act.eval]) rfl ?_ (by simp [Value.oneCell']) (by decide) (by decide) (by have := hb1.out.size; first | omega | (simp; omega)) ?_
       · first | exact hown1 | exact hown1.alloc _
       · intro j u hj
         have h := cells_here w0 [.int .i64 30] 3 j u hj
         rw [Addr.add_lit] at h ⊢
         exact (World.cell?_of_block (hG1.out.block w0.heap.size (by simp <;> omega) (by simp [Value.ownBlock]))).trans ((cell_alloc (by simp)).trans h)
       intro v2 w2 hown2 hg2 _
       have hb2 := Lib.hid (Below.grown (B := w0.heap.size) (a := w0) (by first | exact hb1.out | exact hb1.out.alloc hb1.out.size _) hg2 (by have := hb1.out.size; first | omega | (simp; omega)) (fun k hk => (hown1.lt k hk).1))
       clear hg2)
    | (refine step_append_own rfl (.tmp 65) (.tmp 67) 27 rfl w0.heap.size 3 i0 (.int .i64 0) 1 8 Tryz.underlying27 HI.out.1 HI.out.2.1 HI.out.2.2.1 HI.out.2.2.2 rfl (by decide) v2 6 _ (by simp [Act.eval]) hown2 ⟨w.heap.size, 5, none⟩ 7 7 [.int .i64 29, .int .i64 30, .int .i64 29, .int .i64 30, .int .i64 29, .int .i64 30, .int .i64 29] (by simp [Act.eval]) rfl ?_ (by simp [Value.oneCell']) (by decide) (by decide) hb2.out.size ?_
       · exact cells_old (B := w0.heap.size) hb2.out (by have := HH.out.1; omega) 5 _ HH.out.2.2.2
       intro v3 w3 hown3 hg3 _
       have hb3 := Lib.hid (Below.grown (B := w0.heap.size) (a := w0) hb2.out hg3 hb2.out.size (fun k hk => (hown2.lt k hk).1))
       clear hg3))
  all_goals go_wp2
  all_goals go_ret
  all_goals exact lens_own [30, 29, 30, 29, 30, 30, 29, 30, 29, 30, 29, 30, 29] hown3 rfl (by simp [Dm.months, HLL.out]) (upto13 (by simp [hebL, HL.out, HK.out, hebF])) (by have := HH.out.1; omega) (HH.out.2.1.trans (hb3.out.mono (by have := HH.out.1; omega)))
set_option maxHeartbeats 4000000 in
theorem Lengths_7t385 (y : Int) (w : World) (h1 : -20090 ≤ y) (h2 : y ≤ 20890) (hL : Dm.leap 7 y = true) (hk : Dm.start 7 (y + 1) - Dm.start 7 y = 385) : Calls Tryz.prog 69 #[.int .i64 7, .int .i64 y] w (LensPost 7 y w) := by
  have hLL : Dm.hLeap y = true := hL
  have HLL := Lib.hid hLL; clear hLL
  have HL := Lib.hid hL; clear hL
  have b1 := hStart_bd y (by omega) (by omega)
  have b2 := hStart_bd (y + 1) (by omega) (by omega)
  obtain ⟨i0, hi, hz0, hz1, hz2⟩ := info_parts Tryz.info3
  have HI := Lib.hid (And.intro hi (And.intro hz0 (And.intro hz1 hz2))); clear hi hz0 hz1 hz2
  go_enter Tryz.func69, Tryz.ntmps69
  go_wp2_with fail
  refine (LeapYear_any _ _ _ (by omega) (by omega) (by omega) (by omega)).mono ?_; rintro e w' ⟨rfl, rfl⟩
  rw [HL.out]
  go_wp2_with (go_at_call 77; refine (hebrew_any _ _ (by omega) (by omega)).mono ?_; rintro e w' ⟨rfl, rfl⟩)
  have HK := Lib.hid hk; clear hk
  generalize hw0 : w.alloc (.cells _ 3) = w0
  have hz : w0.heap.size = w.heap.size + 1 := by rw [← hw0]; simp
  have hB0 : Below w.heap.size w w0 := by rw [← hw0]; exact (Below.refl _ _).alloc (Nat.le_refl _) _
  have hL5 : ∀ j u, ([.int .i64 30, .int .i64 30, .int .i64 30, .int .i64 29, .int .i64 30] : List Value)[j]? = some u → w0.cell? ⟨w.heap.size, 0 + j, none⟩ = some u := by
    rw [← hw0]; intro j u hj; rw [World.cell?_alloc_at _ _ _ _ (by simp)]
    match j, hj with
    | 0, hj => simpa using hj
    | 1, hj => simpa using hj
    | 2, hj => simpa using hj
    | 3, hj => simpa using hj
    | 4, hj => simpa using hj
  have hL7 : ∀ j u, ([.int .i64 29, .int .i64 30, .int .i64 29, .int .i64 30, .int .i64 29, .int .i64 30, .int .i64 29] : List Value)[j]? = some u → w0.cell? ⟨w.heap.size, 5 + j, none⟩ = some u := by
    rw [← hw0]; intro j u hj; rw [World.cell?_alloc_at _ _ _ _ (by simp)]
    match j, hj with
    | 0, hj => simpa using hj
    | 1, hj => simpa using hj
    | 2, hj => simpa using hj
    | 3, hj => simpa using hj
    | 4, hj => simpa using hj
    | 5, hj => simpa using hj
    | 6, hj => simpa using hj
  have HH := Lib.hid (And.intro hz (And.intro hB0 (And.intro hL5 hL7))); clear hz hB0 hL5 hL7 hw0
  go_region_law (first
    | (refine step_append_own rfl (.tmp 60) (.tmp 62) 27 rfl w0.heap.size 3 i0 (.int .i64 0) 1 8 Tryz.underlying27 HI.out.1 HI.out.2.1 HI.out.2.2.1 HI.out.2.2.2 rfl (by decide) (.slice (some ⟨w0.heap.size, 0, none⟩) 0 0) 0 [] (by simp [Act.eval]) ?_ ⟨w.heap.size, 0, none⟩ 5 12 [.int .i64 30, .int .i64 30, .int .i64 30, .int .i64 29, .int .i64 30] (by simp [Act.eval]) rfl ?_ (by simp [Value.oneCell']) (by decide) (by decide) (by first | (simp; done) | (simp; omega)) ?_
       · first | exact World.ownsRow.drew (own_empty _ _ _ _ (by simp)) | exact World.ownsRow.drew ((own_empty _ _ _ _ (by simp)).alloc _) | (have h := own_empty (w0.alloc (.cells #[.int .i64 30] 3)) w0.heap.size 3 1 (by simp); simp only [World.size_alloc] at h; exact World.ownsRow.drew h)
       · exact cells_old (B := w0.heap.size) (by repeat (first | with_reducible exact Below.refl _ _ | with_reducible exact hb1.out | with_reducible exact hb2.out | (with_reducible refine Below.drew ?_) | (with_reducible refine Below.alloc ?_ (by first | exact Nat.le_refl _ | (simp <;> omega)) _))) (by have := HH.out.1; omega) 0 _ HH.out.2.2.1
       intro v1 w1 hown1 hg1 _
       have hb1 := Lib.hid (Below.grown (B := w0.heap.size) (a := w0) (by repeat (first | with_reducible exact Below.refl _ _ | with_reducible exact hb1.out | with_reducible exact hb2.out | (with_reducible refine Below.drew ?_) | (with_reducible refine Below.alloc ?_ (by first | exact Nat.le_refl _ | (simp <;> omega)) _))) hg1 (by first | (simp; done) | (simp; omega)) (by intro k hk; simp [Value.ownBlock] at hk; omega))
       have hG1 := Lib.hid hg1
       clear hg1)
    | (refine step_append_own rfl (.tmp 60) (.tmp 62) 27 rfl w0.heap.size 3 i0 (.int .i64 0) 1 8 Tryz.underlying27 HI.out.1 HI.out.2.1 HI.out.2.2.1 HI.out.2.2.2 rfl (by decide) (.slice (some ⟨w0.heap.size + 1, 0, none⟩) 0 0) 0 [] (by simp [Act.eval]) ?_ ⟨w.heap.size, 0, none⟩ 5 12 [.int .i64 30, .int .i64 30, .int .i64 30, .int .i64 29, .int .i64 30] (by simp [Act.eval]) rfl ?_ (by simp [Value.oneCell']) (by decide) (by decide) (by first | (simp; done) | (simp; omega)) ?_
       · first | exact World.ownsRow.drew (own_empty _ _ _ _ (by simp)) | exact World.ownsRow.drew ((own_empty _ _ _ _ (by simp)).alloc _) | (have h := own_empty (w0.alloc (.cells #[.int .i64 30] 3)) w0.heap.size 3 1 (by simp); simp only [World.size_alloc] at h; exact World.ownsRow.drew h)
       · exact cells_old (B := w0.heap.size) (by repeat (first | with_reducible exact Below.refl _ _ | with_reducible exact hb1.out | with_reducible exact hb2.out | (with_reducible refine Below.drew ?_) | (with_reducible refine Below.alloc ?_ (by first | exact Nat.le_refl _ | (simp <;> omega)) _))) (by have := HH.out.1; omega) 0 _ HH.out.2.2.1
       intro v1 w1 hown1 hg1 _
       have hb1 := Lib.hid (Below.grown (B := w0.heap.size) (a := w0) (by repeat (first | with_reducible exact Below.refl _ _ | with_reducible exact hb1.out | with_reducible exact hb2.out | (with_reducible refine Below.drew ?_) | (with_reducible refine Below.alloc ?_ (by first | exact Nat.le_refl _ | (simp <;> omega)) _))) hg1 (by first | (simp; done) | (simp; omega)) (by intro k hk; simp [Value.ownBlock] at hk; omega))
       have hG1 := Lib.hid hg1
       clear hg1)
    | (refine step_append_own rfl (.tmp 63) (.tmp 64) 27 rfl w0.heap.size 3 i0 (.int .i64 0) 1 8 Tryz.underlying27 HI.out.1 HI.out.2.1 HI.out.2.2.1 HI.out.2.2.2 rfl (by decide) v1 5 [.int .i64 30, .int .i64 30, .int .i64 30, .int .i64 29, .int .i64 30] (by simp [Act.eval]) ?_ ⟨w1.heap.size, 0, none⟩ 1 1 [.int .i64 30] (by simp [Act.eval]) rfl ?_ (by simp [Value.oneCell']) (by decide) (by decide) (by have := hb1.out.size; first | omega | (simp; omega)) ?_
       · first | exact hown1 | exact hown1.alloc _
       · exact cells_here _ [.int .i64 30] 3
       intro v2 w2 hown2 hg2 _
       have hb2 := Lib.hid (Below.grown (B := w0.heap.size) (a := w0) (by first | exact hb1.out | exact hb1.out.alloc hb1.out.size _) hg2 (by have := hb1.out.size; first | omega | (simp; omega)) (fun k hk => (hown1.lt k hk).1))
       clear hg2)
    | (refine step_append_own rfl (.tmp 63) (.tmp 64) 27 rfl w0.heap.size 3 i0 (.int .i64 0) 1 8 Tryz.underlying27 HI.out.1 HI.out.2.1 HI.out.2.2.1 HI.out.2.2.2 rfl (by decide) v1 5 [.int .i64 30, .int .i64 30, .int .i64 30, .int .i64 29, .int .i64 30] (by simp [Act.eval]) ?_ ⟨w0.heap.size + 1, 0, none⟩ 1 1 [.int .i64 30] (by simp [Act.eval]) rfl ?_ (by simp [Value.oneCell']) (by decide) (by decide) (by have := hb1.out.size; first | omega | (simp; omega)) ?_
       · first | exact hown1 | exact hown1.alloc _
       · intro j u hj
         have h := cells_here (w0.alloc (.cells #[] 3)) [.int .i64 30] 3 j u hj
         rw [Addr.add_lit] at h ⊢
         simp only [World.size_alloc] at h
         exact (World.cell?_of_block (hG1.out.block (w0.heap.size + 1) (by simp) (by simp [Value.ownBlock]))).trans h
       intro v2 w2 hown2 hg2 _
       have hb2 := Lib.hid (Below.grown (B := w0.heap.size) (a := w0) (by first | exact hb1.out | exact hb1.out.alloc hb1.out.size _) hg2 (by have := hb1.out.size; first | omega | (simp; omega)) (fun k hk => (hown1.lt k hk).1))
       clear hg2)
    | (refine step_append_own rfl (.tmp 63) (.tmp 64) 27 rfl w0.heap.size 3 i0 (.int .i64 0) 1 8 Tryz.underlying27 HI.out.1 HI.out.2.1 HI.out.2.2.1 HI.out.2.2.2 rfl (by decide) v1 5 [.int .i64 30, .int .i64 30, .int .i64 30, .int .i64 29, .int .i64 30] (by simp [Act.eval]) ?_ ⟨w0.heap.size, 0, none⟩ 1 1 [.int .i64 30] (by simp [Act.eval]) rfl ?_ (by simp [Value.oneCell']) (by decide) (by decide) (by have := hb1.out.size; first | omega | (simp; omega)) ?_
       · first | exact hown1 | exact hown1.alloc _
       · intro j u hj
         have h := cells_here w0 [.int .i64 30] 3 j u hj
         rw [Addr.add_lit] at h ⊢
         exact (World.cell?_of_block (hG1.out.block w0.heap.size (by simp <;> omega) (by simp [Value.ownBlock]))).trans ((cell_alloc (by simp)).trans h)
       intro v2 w2 hown2 hg2 _
       have hb2 := Lib.hid (Below.grown (B := w0.heap.size) (a := w0) (by first | exact hb1.out | exact hb1.out.alloc hb1.out.size _) hg2 (by have := hb1.out.size; first | omega | (simp; omega)) (fun k hk => (hown1.lt k hk).1))
       clear hg2)
    | (refine step_append_own rfl (.tmp 65) (.tmp 67) 27 rfl w0.heap.size 3 i0 (.int .i64 0) 1 8 Tryz.underlying27 HI.out.1 HI.out.2.1 HI.out.2.2.1 HI.out.2.2.2 rfl (by decide) v2 6 _ (by simp [Act.eval]) hown2 ⟨w.heap.size, 5, none⟩ 7 7 [.int .i64 29, .int .i64 30, .int .i64 29, .int .i64 30, .int .i64 29, .int .i64 30, .int .i64 29] (by simp [Act.eval]) rfl ?_ (by simp [Value.oneCell']) (by decide) (by decide) hb2.out.size ?_
       · exact cells_old (B := w0.heap.size) hb2.out (by have := HH.out.1; omega) 5 _ HH.out.2.2.2
       intro v3 w3 hown3 hg3 _
       have hb3 := Lib.hid (Below.grown (B := w0.heap.size) (a := w0) hb2.out hg3 hb2.out.size (fun k hk => (hown2.lt k hk).1))
       clear hg3))
  all_goals go_wp2
  all_goals go_ret
  all_goals exact lens_own [30, 30, 30, 29, 30, 30, 29, 30, 29, 30, 29, 30, 29] hown3 rfl (by simp [Dm.months, HLL.out]) (upto13 (by simp [hebL, HL.out, HK.out, hebF])) (by have := HH.out.1; omega) (HH.out.2.1.trans (hb3.out.mono (by have := HH.out.1; omega)))
set_option maxHeartbeats 2000000 in
theorem Lengths_7f353 (y : Int) (w : World) (h1 : -20090 ≤ y) (h2 : y ≤ 20890) (hL : Dm.leap 7 y = false) (hk : Dm.start 7 (y + 1) - Dm.start 7 y = 353) : Calls Tryz.prog 69 #[.int .i64 7, .int .i64 y] w (LensPost 7 y w) := by
  have hLL : Dm.hLeap y = false := hL
  have HLL := Lib.hid hLL; clear hLL
  have HL := Lib.hid hL; clear hL
  have b1 := hStart_bd y (by omega) (by omega)
  have b2 := hStart_bd (y + 1) (by omega) (by omega)
  go_enter Tryz.func69, Tryz.ntmps69
  go_wp2_with fail
  refine (LeapYear_any _ _ _ (by omega) (by omega) (by omega) (by omega)).mono ?_; rintro e w' ⟨rfl, rfl⟩
  rw [HL.out]
  go_wp2_with (go_at_call 77; refine (hebrew_any _ _ (by omega) (by omega)).mono ?_; rintro e w' ⟨rfl, rfl⟩)
  go_ret
  exact lens_new [30, 29, 29, 29, 30, 29, 30, 29, 30, 29, 30, 29] (by simp [Dm.months, HLL.out]) (upto12 (by simp [hebL, HL.out, hk, hebF])) _ rfl _
set_option maxHeartbeats 2000000 in
theorem Lengths_7f354 (y : Int) (w : World) (h1 : -20090 ≤ y) (h2 : y ≤ 20890) (hL : Dm.leap 7 y = false) (hk : Dm.start 7 (y + 1) - Dm.start 7 y = 354) : Calls Tryz.prog 69 #[.int .i64 7, .int .i64 y] w (LensPost 7 y w) := by
  have hLL : Dm.hLeap y = false := hL
  have HLL := Lib.hid hLL; clear hLL
  have HL := Lib.hid hL; clear hL
  have b1 := hStart_bd y (by omega) (by omega)
  have b2 := hStart_bd (y + 1) (by omega) (by omega)
  go_enter Tryz.func69, Tryz.ntmps69
  go_wp2_with fail
  refine (LeapYear_any _ _ _ (by omega) (by omega) (by omega) (by omega)).mono ?_; rintro e w' ⟨rfl, rfl⟩
  rw [HL.out]
  go_wp2_with (go_at_call 77; refine (hebrew_any _ _ (by omega) (by omega)).mono ?_; rintro e w' ⟨rfl, rfl⟩)
  go_ret
  exact lens_new [30, 29, 30, 29, 30, 29, 30, 29, 30, 29, 30, 29] (by simp [Dm.months, HLL.out]) (upto12 (by simp [hebL, HL.out, hk, hebF])) _ rfl _
set_option maxHeartbeats 2000000 in
theorem Lengths_7f355 (y : Int) (w : World) (h1 : -20090 ≤ y) (h2 : y ≤ 20890) (hL : Dm.leap 7 y = false) (hk : Dm.start 7 (y + 1) - Dm.start 7 y = 355) : Calls Tryz.prog 69 #[.int .i64 7, .int .i64 y] w (LensPost 7 y w) := by
  have hLL : Dm.hLeap y = false := hL
  have HLL := Lib.hid hLL; clear hLL
  have HL := Lib.hid hL; clear hL
  have b1 := hStart_bd y (by omega) (by omega)
  have b2 := hStart_bd (y + 1) (by omega) (by omega)
  go_enter Tryz.func69, Tryz.ntmps69
  go_wp2_with fail
  refine (LeapYear_any _ _ _ (by omega) (by omega) (by omega) (by omega)).mono ?_; rintro e w' ⟨rfl, rfl⟩
  rw [HL.out]
  go_wp2_with (go_at_call 77; refine (hebrew_any _ _ (by omega) (by omega)).mono ?_; rintro e w' ⟨rfl, rfl⟩)
  go_ret
  exact lens_new [30, 30, 30, 29, 30, 29, 30, 29, 30, 29, 30, 29] (by simp [Dm.months, HLL.out]) (upto12 (by simp [hebL, HL.out, hk, hebF])) _ rfl _
theorem Lengths_7 (y : Int) (w : World) (h1 : -20090 ≤ y) (h2 : y ≤ 20890) : Calls Tryz.prog 69 #[.int .i64 7, .int .i64 y] w (LensPost 7 y w) := by
  obtain ⟨k, k1, k2, e⟩ := Dm.days_heb y (by omega) (by omega)
  have e' : Dm.start 7 (y + 1) - Dm.start 7 y = k + if Dm.hLeap y = true then 30 else 0 := e
  cases hL : Dm.leap 7 y
  · have hL' : Dm.hLeap y = false := hL
    rw [hL'] at e'
    simp at e'
    have hk : k = 353 ∨ k = 354 ∨ k = 355 := by omega
    rcases hk with rfl | rfl | rfl
    · exact Lengths_7f353 y w h1 h2 hL e'
    · exact Lengths_7f354 y w h1 h2 hL e'
    · exact Lengths_7f355 y w h1 h2 hL e'
  · have hL' : Dm.hLeap y = true := hL
    rw [hL'] at e'
    simp at e'
    have hk : k = 353 ∨ k = 354 ∨ k = 355 := by omega
    rcases hk with rfl | rfl | rfl
    · exact Lengths_7t383 y w h1 h2 hL e'
    · exact Lengths_7t384 y w h1 h2 hL e'
    · exact Lengths_7t385 y w h1 h2 hL e'
theorem Lengths_any (c y : Int) (w : World) (c1 : 1 ≤ c) (c2 : c ≤ 10) (h1 : -20090 ≤ y) (h2 : y ≤ 20890) : Calls Tryz.prog 69 #[.int .i64 c, .int .i64 y] w (LensPost c y w) := by
  by_cases h : c = 7
  · rw [h]; exact Lengths_7 y w h1 h2
  · exact Lengths_plain c y w c1 c2 h (by omega) (by omega)
end Go.Proofs.YtbgcccfgcdkmdaaGreatDoor
