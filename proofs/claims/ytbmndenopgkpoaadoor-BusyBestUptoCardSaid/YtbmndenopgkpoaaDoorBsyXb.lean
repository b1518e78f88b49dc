/- Plain: what the law's loop has found so far. -/
import Derived.Test.YtbmndenopgkpoaaDoorBsyX
namespace Go.Proofs.YtbmndenopgkpoaaDoor
open Go.RowKit Wrk Go.Shelf
def FndB (FS : Option Sl) (A : Int) (M : Bool) : Prop := ∃ c, FS = some c ∧ (M = true → c.1 < A)
structure Srch (W : Wnt) (S : Int → Option (Int × List Int)) (FS : Option Sl) : Prop where
  res : Res S (VisF W W.frm) none FS
  st : 1 ≤ W.step
  len : 1 ≤ W.len
theorem Srch.vis {W : Wnt} {S : Int → Option (Int × List Int)} {FS : Option Sl} (h : Srch W S FS) {c : Sl} (hc : FS = some c) : VisF W W.frm c.1 ∧ S c.1 = some (c.2.1, c.2.2) ∧ ∀ t, VisF W W.frm t → ∀ r m, S t = some (r, m) → c.2.2.length ≤ m.length ∧ (c.2.2.length = m.length → c.1 ≤ t) := by
  rcases h.res.som c hc with ⟨h1, _⟩ | ⟨h1, h2, h3, _⟩
  · cases h1
  · exact ⟨h1, h2, h3⟩
theorem visF_low {W : Wnt} {a t : Int} (hs : 1 ≤ W.step) (h : VisF W a t) : a ≤ t := by
  obtain ⟨i, h1, _⟩ := h
  have : 0 ≤ (i : Int) * W.step := Int.mul_nonneg (by omega) (by omega)
  omega
theorem Srch.start {W : Wnt} {S : Int → Option (Int × List Int)} {FS : Option Sl} (h : Srch W S FS) : ¬ FndB FS W.frm true := by
  rintro ⟨c, hc, hlt⟩
  have h1 := visF_low h.st (h.vis hc).1
  have := hlt rfl
  omega
/-- The next moment: A is the moment at hand, A' the next, M: there is one. -/
theorem Srch.next {W : Wnt} {S : Int → Option (Int × List Int)} {FS : Option Sl} (h : Srch W S FS) {c : Sl} (hc : FS = some c) {j : Nat} {A A' : Int} {M : Bool} (hA : A = W.frm + j * W.step) (hM : M = true → A' = A + W.step) (hF : M = false → W.to - A < W.step) : FndB FS A' M ↔ c.1 ≤ A := by
  have hv := (h.vis hc).1
  have hst := h.st
  have hln := h.len
  have key : c.1 ≤ A ∨ A + W.step ≤ c.1 := by
    rcases Int.lt_or_le A c.1 with h1 | h1
    · right
      have := visF_next (j := j) hst hv (by rw [← hA]; exact h1)
      rw [← hA] at this
      exact this
    · exact .inl h1
  have hto : c.1 + W.len ≤ W.to := by obtain ⟨_, _, h2⟩ := hv; exact h2
  constructor
  · rintro ⟨c', hc', hlt⟩
    rw [hc] at hc'
    cases hc'
    rcases key with h1 | h1
    · exact h1
    · cases M with
      | true => have h2 := hlt rfl; rw [hM rfl] at h2; omega
      | false => have := hF rfl; omega
  · intro h1
    exact ⟨c, hc, fun e => by rw [hM e]; omega⟩
theorem Srch.skip {W : Wnt} {S : Int → Option (Int × List Int)} {FS : Option Sl} (h : Srch W S FS) {j : Nat} {A A' : Int} {M : Bool} (hA : A = W.frm + j * W.step) (hM : M = true → A' = A + W.step) (hF : M = false → W.to - A < W.step) (hS : S A = none) : FndB FS A' M ↔ FndB FS A true := by
  cases hc : FS with
  | none => exact ⟨fun ⟨c, e, _⟩ => (by cases e), fun ⟨c, e, _⟩ => (by cases e)⟩
  | some c =>
    have h1 := h.next hc hA hM hF
    rw [hc] at h1
    rw [h1]
    have hne : c.1 ≠ A := fun e => by
      have h2 := (h.vis hc).2.1
      rw [e, hS] at h2
      cases h2
    constructor
    · exact fun h3 => ⟨c, rfl, fun _ => by omega⟩
    · rintro ⟨c', hc', hlt⟩
      cases hc'
      have := hlt rfl
      omega
theorem Srch.here {W : Wnt} {S : Int → Option (Int × List Int)} {FS : Option Sl} (h : Srch W S FS) {j : Nat} {A A' : Int} {M : Bool} (hA : A = W.frm + j * W.step) (hM : M = true → A' = A + W.step) (hF : M = false → W.to - A < W.step) {r : Int} {m : List Int} (hS : S A = some (r, m)) (hto : A + W.len ≤ W.to) :
    ∃ c, FS = some c ∧ c.2.2.length ≤ m.length ∧ (m.length = c.2.2.length → c.1 ≤ A) ∧ (FndB FS A' M ↔ FndB FS A true ∨ (A = c.1 ∧ m.length = c.2.2.length)) := by
  have hvA : VisF W W.frm A := ⟨j, hA, hto⟩
  cases hc : FS with
  | none =>
    have := (h.res.non hc).2 A hvA
    rw [hS] at this
    cases this
  | some c =>
    have h1 := h.next hc hA hM hF
    rw [hc] at h1
    obtain ⟨_, h2, h3⟩ := h.vis hc
    obtain ⟨h4, h5⟩ := h3 A hvA r m hS
    refine ⟨c, rfl, h4, fun e => h5 e.symm, ?_⟩
    rw [h1]
    constructor
    · intro h6
      rcases Int.lt_or_le c.1 A with h7 | h7
      · exact .inl ⟨c, rfl, fun _ => h7⟩
      · have e : A = c.1 := by omega
        refine .inr ⟨e, ?_⟩
        rw [← e, hS] at h2
        injection h2 with h2
        injection h2 with h8 h9
        rw [h9]
    · rintro (⟨c', hc', hlt⟩ | ⟨e, _⟩)
      · cases hc'
        have := hlt rfl
        omega
      · omega
theorem Srch.last {W : Wnt} {S : Int → Option (Int × List Int)} {FS : Option Sl} (h : Srch W S FS) {A : Int} {M : Bool} (hn : M = true → ¬ A + W.len ≤ W.to) : FndB FS A M ↔ FS ≠ none := by
  constructor
  · rintro ⟨c, hc, _⟩ e
    rw [hc] at e
    cases e
  · intro hne
    cases hc : FS with
    | none => exact absurd hc hne
    | some c =>
      refine ⟨c, rfl, fun e => ?_⟩
      obtain ⟨⟨_, _, h2⟩, _, _⟩ := h.vis hc
      have := hn e
      omega
theorem slot_no {W : Wnt} {P : List (List Iv)} {A : Int} (h : 0 < (missL P W.must A (A + W.len)).length) : slotR W P [] A = none := by
  unfold slotR
  rw [if_neg (fun e => by rw [e] at h; simp at h)]
theorem slot_yes {W : Wnt} {P : List (List Iv)} {A : Int} (h : ¬ 0 < (missL P W.must A (A + W.len)).length) (hs : W.seats = 0) : slotR W P [] A = some (-1, sortL (missL P W.should A (A + W.len))) := by
  unfold slotR
  rw [if_pos (List.eq_nil_of_length_eq_zero (by omega)), if_pos hs]
theorem Srch.of {W : Wnt} {P : List (List Iv)} (hs : 1 ≤ W.step) (hl : 1 ≤ W.len) : Srch W (slotR W P []) (findS W P [] (fuelW W) W.frm none) :=
  ⟨findS_res hs hl _ _ _ (by unfold fuelW; omega), hs, hl⟩
theorem RoomsS.nil (w : World) : RoomsS w (.slice none 0 0) [] := ⟨none, 0, rfl, fun h => absurd h (by simp), fun a h => by cases h⟩
/-- The box of what is asked for, its seats struck out. -/
theorem want_set {w : World} {z : Nat} {c0 c1 c2 c3 c4 c5 c6 : Value} (h0 : w.cell? ⟨z, 0, none⟩ = some c0) (h1 : w.cell? ⟨z, 1, none⟩ = some c1) (h2 : w.cell? ⟨z, 2, none⟩ = some c2) (h3 : w.cell? ⟨z, 3, none⟩ = some c3) (h4 : w.cell? ⟨z, 4, none⟩ = some c4) (h5 : w.cell? ⟨z, 5, none⟩ = some c5) (h6 : w.cell? ⟨z, 6, none⟩ = some c6) (u : Value) :
    (w.setCell ⟨z, 6, none⟩ u).cell? ⟨z, 0, none⟩ = some c0 ∧ (w.setCell ⟨z, 6, none⟩ u).cell? ⟨z, 1, none⟩ = some c1 ∧ (w.setCell ⟨z, 6, none⟩ u).cell? ⟨z, 2, none⟩ = some c2 ∧ (w.setCell ⟨z, 6, none⟩ u).cell? ⟨z, 3, none⟩ = some c3 ∧ (w.setCell ⟨z, 6, none⟩ u).cell? ⟨z, 4, none⟩ = some c4 ∧ (w.setCell ⟨z, 6, none⟩ u).cell? ⟨z, 5, none⟩ = some c5 ∧ (w.setCell ⟨z, 6, none⟩ u).cell? ⟨z, 6, none⟩ = some u :=
  ⟨(World.cell?_setCell_other _ _ _ _ (by simp)).trans h0, (World.cell?_setCell_other _ _ _ _ (by simp)).trans h1, (World.cell?_setCell_other _ _ _ _ (by simp)).trans h2, (World.cell?_setCell_other _ _ _ _ (by simp)).trans h3, (World.cell?_setCell_other _ _ _ _ (by simp)).trans h4, (World.cell?_setCell_other _ _ _ _ (by simp)).trans h5, World.cell?_setCell_same _ _ _ h6⟩
end Go.Proofs.YtbmndenopgkpoaaDoor
