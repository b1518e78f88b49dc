/- The reader; a part under way. -/
import Derived.Test.YtidgahnamdhflaaDoorPsxG
namespace Go.Proofs.YtidgahnamdhflaaDoor
open Go.RowKit Go.Shelf Fld Prt Psx
theorem loopP_step {lines : List (List UInt8)} {g : Nat → PtP} {nm : ByteArray} {f a : Nat} {ls : List Ln} {ps : List Part} (h : a < lines.length) : loopP lines g nm (f + 1) ls ps a =
      if (lnP (lines.getD a [])).1 ≠ 0 then ⟨(lnP (lines.getD a [])).1, part0, a⟩
      else if (lnP (lines.getD a [])).2.name.data.toList = [66, 69, 71, 73, 78] then
        (if (g a).err ≠ 0 then ⟨(g a).err, part0, (g a).pos⟩ else loopP lines g nm f ls (ps ++ [(g a).part]) (g a).pos)
      else if (lnP (lines.getD a [])).2.name.data.toList = [69, 78, 68] then
        (if (lnP (lines.getD a [])).2.prms ≠ [] ∨ greatL (lnP (lines.getD a [])).2.value.data.toList ≠ nm.data.toList then ⟨5, part0, a⟩ else ⟨0, .mk nm ls ps, a + 1⟩)
      else if ps ≠ [] then ⟨7, part0, a⟩
      else loopP lines g nm f (ls ++ [(lnP (lines.getD a [])).2]) ps (a + 1) := by
  conv => lhs; unfold loopP
  rw [if_pos h]
theorem loopP_out {lines : List (List UInt8)} {g : Nat → PtP} {nm : ByteArray} {f a : Nat} {ls : List Ln} {ps : List Part} (h : ¬ a < lines.length) : loopP lines g nm f ls ps a = ⟨13, part0, a⟩ := by
  cases f with
  | zero => rfl
  | succ f => conv => lhs; unfold loopP
              rw [if_neg h]
theorem loopP_pos {lines : List (List UInt8)} {g : Nat → PtP} {nm : ByteArray} (hg : ∀ a, a ≤ lines.length → a ≤ (g a).pos ∧ (g a).pos ≤ lines.length ∧ ((g a).err = 0 → a < (g a).pos)) : ∀ (f : Nat) (ls : List Ln) (ps : List Part) (a : Nat), a ≤ lines.length → a ≤ (loopP lines g nm f ls ps a).pos ∧ (loopP lines g nm f ls ps a).pos ≤ lines.length ∧ ((loopP lines g nm f ls ps a).err = 0 → a < (loopP lines g nm f ls ps a).pos) := by
  intro f
  induction f with
  | zero => intro ls ps a h; exact ⟨Nat.le_refl _, h, fun h => absurd h (show (13 : Int) ≠ 0 by decide)⟩
  | succ f ih =>
    intro ls ps a h
    by_cases ha : a < lines.length
    · rw [loopP_step ha]
      split
      · rename_i h1; exact ⟨Nat.le_refl _, h, fun h => absurd h h1⟩
      · split
        · obtain ⟨g1, g2, g3⟩ := hg a h
          split
          · rename_i h1; exact ⟨g1, g2, fun h => absurd h h1⟩
          · rename_i h1
            have h1 : (g a).err = 0 := by omega
            obtain ⟨i1, i2, i3⟩ := ih ls (ps ++ [(g a).part]) (g a).pos g2
            have := g3 h1
            exact ⟨by omega, i2, fun h => by have := i3 h; omega⟩
        · split
          · split
            · exact ⟨Nat.le_refl _, h, fun h => absurd h (show (5 : Int) ≠ 0 by decide)⟩
            · exact ⟨Nat.le_succ _, ha, fun _ => Nat.lt_succ_self _⟩
          · split
            · exact ⟨Nat.le_refl _, h, fun h => absurd h (show (7 : Int) ≠ 0 by decide)⟩
            · obtain ⟨i1, i2, i3⟩ := ih (ls ++ [(lnP (lines.getD a [])).2]) ps (a + 1) ha
              exact ⟨by omega, i2, fun h => by have := i3 h; omega⟩
    · rw [loopP_out ha]
      exact ⟨Nat.le_refl _, h, fun h => absurd h (show (13 : Int) ≠ 0 by decide)⟩
/-- The first checks of a part: an error, or 0. -/
def headE (lines : List (List UInt8)) (a : Nat) : Int :=
  if a < lines.length then
    if (lnP (lines.getD a [])).1 ≠ 0 then (lnP (lines.getD a [])).1
    else if (lnP (lines.getD a [])).2.name.data.toList ≠ [66, 69, 71, 73, 78] ∨ (lnP (lines.getD a [])).2.prms ≠ [] then 5
    else if nameB (greatL (lnP (lines.getD a [])).2.value.data.toList) = false then 8
    else 0
  else 13
theorem partP_bad {lines : List (List UInt8)} {k a : Nat} (h : headE lines a ≠ 0) : partP lines k a = ⟨headE lines a, part0, a⟩ := by
  unfold headE at *
  cases k with
  | zero =>
    unfold partP
    simp only
    split
    · rename_i h0
      rw [if_pos h0] at h
      split
      · rfl
      · rename_i h1
        rw [if_neg h1] at h
        split
        · rfl
        · rename_i h2
          rw [if_neg h2] at h
          split
          · rfl
          · rename_i h3
            rw [if_neg h3] at h
            exact absurd rfl h
    · rfl
  | succ k =>
    unfold partP
    simp only
    split
    · rename_i h0
      rw [if_pos h0] at h
      split
      · rfl
      · rename_i h1
        rw [if_neg h1] at h
        split
        · rfl
        · rename_i h2
          rw [if_neg h2] at h
          split
          · rfl
          · rename_i h3
            rw [if_neg h3] at h
            exact absurd rfl h
    · rfl
theorem headE_zero {lines : List (List UInt8)} {a : Nat} (h : headE lines a = 0) : a < lines.length ∧ (lnP (lines.getD a [])).1 = 0 ∧ (lnP (lines.getD a [])).2.name.data.toList = [66, 69, 71, 73, 78] ∧ (lnP (lines.getD a [])).2.prms = [] ∧ nameB (greatL (lnP (lines.getD a [])).2.value.data.toList) = true := by
  unfold headE at h
  split at h
  · rename_i h0
    split at h
    · rename_i h1; exact absurd h h1
    · rename_i h1
      split at h
      · exact absurd h (by decide)
      · rename_i h2
        split at h
        · exact absurd h (by decide)
        · rename_i h3
          refine ⟨h0, by omega, ?_, ?_, by simpa using h3⟩
          · exact Classical.byContradiction fun e => h2 (.inl e)
          · exact Classical.byContradiction fun e => h2 (.inr e)
  · exact absurd h (by decide)
theorem partP_zero {lines : List (List UInt8)} {a : Nat} (h : headE lines a = 0) : partP lines 0 a = ⟨6, part0, a⟩ := by
  obtain ⟨h0, h1, h2, h3, h4⟩ := headE_zero h
  unfold partP
  simp only
  rw [if_pos h0, if_neg (fun e => e h1), if_neg (fun e => e.elim (fun e => e h2) (fun e => e h3)), if_neg (by rw [h4]; decide)]
theorem partP_succ {lines : List (List UInt8)} {k a : Nat} (h : headE lines a = 0) : partP lines (k + 1) a = loopP lines (partP lines k) (bs (greatL (lnP (lines.getD a [])).2.value.data.toList)) (lines.length + 1) [] [] (a + 1) := by
  obtain ⟨h0, h1, h2, h3, h4⟩ := headE_zero h
  conv => lhs; unfold partP
  simp only
  rw [if_pos h0, if_neg (fun e => e h1), if_neg (fun e => e.elim (fun e => e h2) (fun e => e h3)), if_neg (by rw [h4]; decide)]
theorem partP_pos {lines : List (List UInt8)} : ∀ (k a : Nat), a ≤ lines.length → a ≤ (partP lines k a).pos ∧ (partP lines k a).pos ≤ lines.length ∧ ((partP lines k a).err = 0 → a < (partP lines k a).pos) := by
  intro k
  induction k with
  | zero =>
    intro a h
    by_cases he : headE lines a = 0
    · rw [partP_zero he]; exact ⟨Nat.le_refl _, h, fun h => absurd h (show (6 : Int) ≠ 0 by decide)⟩
    · rw [partP_bad he]; exact ⟨Nat.le_refl _, h, fun h => absurd h he⟩
  | succ k ih =>
    intro a h
    by_cases he : headE lines a = 0
    · rw [partP_succ he]
      have := loopP_pos ih (nm := bs (greatL (lnP (lines.getD a [])).2.value.data.toList)) (lines.length + 1) [] [] (a + 1) (headE_zero he).1
      exact ⟨by omega, this.2.1, fun h => by have := this.2.2 h; omega⟩
    · rw [partP_bad he]; exact ⟨Nat.le_refl _, h, fun h => absurd h he⟩
/-- The reader's block. -/
def Rd (rb lo : Nat) (vL : Value) (lines : List (List UInt8)) (a : Nat) (x : World) : Prop :=
  rb < x.heap.size ∧ x.cell? ⟨rb, 0, none⟩ = some vL ∧ x.cell? ⟨rb, 1, none⟩ = some (.int .i64 (a : Int)) ∧ x.frozen? ⟨rb, 1, none⟩ = false ∧ StrL x lo vL lines ∧ vL.ownBlock ≠ some rb
theorem Rd.call {rb lo : Nat} {vL : Value} {lines : List (List UInt8)} {a : Nat} {x x' : World} (h : Rd rb lo vL lines a x) (hb : Below x.heap.size x x') : Rd rb lo vL lines a x' := by
  obtain ⟨h0, h1, h2, h3, h4, h5⟩ := h
  exact ⟨Nat.lt_of_lt_of_le h0 hb.size, (hb.cell (p := ⟨rb, 0, none⟩) h0).trans h1, (hb.cell (p := ⟨rb, 1, none⟩) h0).trans h2, (hb.frozen (p := ⟨rb, 1, none⟩) h0).trans h3, h4.call hb, h5⟩
theorem Rd.put {rb lo : Nat} {vL : Value} {lines : List (List UInt8)} {a : Nat} {x : World} (h : Rd rb lo vL lines a x) (b : Nat) : Rd rb lo vL lines b (x.setCell ⟨rb, 1, none⟩ (.int .i64 (b : Int))) := by
  obtain ⟨h0, h1, h2, h3, h4, h5⟩ := h
  refine ⟨by simpa [World.setCell] using h0, ?_, World.cell?_setCell_same _ _ _ h2, by rw [World.frozen?_setCell]; exact h3, row_far h4 (fun k hk e => h5 (by rw [hk, e])) _, h5⟩
  rw [World.cell?_setCell_other _ _ _ _ (by simp)]; exact h1
/-- Rd where only far blocks turned. -/
theorem Rd.far {rb lo : Nat} {vL : Value} {lines : List (List UInt8)} {a : Nat} {x y : World} (h : Rd rb lo vL lines a x) {row : Option Nat} (hg : x.grownBy y row) (h1 : row ≠ some rb) (h2 : vL.ownBlock = none ∨ vL.ownBlock ≠ row) : Rd rb lo vL lines a y := by
  obtain ⟨g0, g1, g2, g3, g4, g5⟩ := h
  have hk := hg.block rb g0 (fun e => h1 e.symm)
  exact ⟨Nat.lt_of_lt_of_le g0 hg.size, (World.cell?_of_block (w := x) (a := ⟨rb, 0, none⟩) hk).trans g1, (World.cell?_of_block (w := x) (a := ⟨rb, 1, none⟩) hk).trans g2, (World.frozen?_of_block (w := x) (a := ⟨rb, 1, none⟩) hk).trans g3, World.ownsRow.kept g4 hg h2, g5⟩
/-- The line at a. -/
theorem Rd.line {rb lo : Nat} {vL : Value} {lines : List (List UInt8)} {a : Nat} {x : World} (h : Rd rb lo vL lines a x) {i : Nat} (ha : i < lines.length) : ∃ lb cap, vL = .slice (some ⟨lb, 0, none⟩) lines.length cap ∧ lb < x.heap.size ∧ lb ≠ rb ∧ x.cell? ⟨lb, i, none⟩ = some (.string (bs (lines.getD i []))) := by
  obtain ⟨h0, h1, h2, h3, h4, h5⟩ := h
  obtain ⟨oa, cap, rfl⟩ := h4.form
  obtain ⟨g, e, g1, g2, hc, -⟩ := h4.at (k := i) ha
  subst e
  refine ⟨g, cap, rfl, g2, fun e => h5 (by rw [e]; rfl), ?_⟩
  rw [hc]
  simp [List.getD, ha, bs]
end Go.Proofs.YtidgahnamdhflaaDoor
