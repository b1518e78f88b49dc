/- The place of the document's reader; a part under way there. -/
import Derived.Test.YtidgahnamdhflaaDoorPsxI
import Derived.Test.YtidgahnamdhflaaDoorPsxP
namespace Go.Proofs.YtidgahnamdhflaaDoor
open Go.RowKit Go.Shelf Fld Prt Psx
/-- The place's block. -/
def Re (rb lo : Nat) (vL : Value) (lines : List (List UInt8)) (a : Nat) (x : World) : Prop :=
  rb < x.heap.size ∧ True ∧ x.cell? ⟨rb, 0, none⟩ = some (.int .i64 (a : Int)) ∧ x.frozen? ⟨rb, 0, none⟩ = false ∧ StrL x lo vL lines ∧ vL.ownBlock ≠ some rb
theorem Re.call {rb lo : Nat} {vL : Value} {lines : List (List UInt8)} {a : Nat} {x x' : World} (h : Re rb lo vL lines a x) (hb : Below x.heap.size x x') : Re rb lo vL lines a x' := by
  obtain ⟨h0, -, h2, h3, h4, h5⟩ := h
  exact ⟨Nat.lt_of_lt_of_le h0 hb.size, trivial, (hb.cell (p := ⟨rb, 0, none⟩) h0).trans h2, (hb.frozen (p := ⟨rb, 0, none⟩) h0).trans h3, h4.call hb, h5⟩
theorem Re.put {rb lo : Nat} {vL : Value} {lines : List (List UInt8)} {a : Nat} {x : World} (h : Re rb lo vL lines a x) (b : Nat) : Re rb lo vL lines b (x.setCell ⟨rb, 0, none⟩ (.int .i64 (b : Int))) := by
  obtain ⟨h0, -, h2, h3, h4, h5⟩ := h
  exact ⟨by simpa [World.setCell] using h0, trivial, World.cell?_setCell_same _ _ _ h2, by rw [World.frozen?_setCell]; exact h3, row_far h4 (fun k hk e => h5 (by rw [hk, e])) _, h5⟩
theorem Re.far {rb lo : Nat} {vL : Value} {lines : List (List UInt8)} {a : Nat} {x y : World} (h : Re rb lo vL lines a x) {row : Option Nat} (hg : x.grownBy y row) (h1 : row ≠ some rb) (h2 : vL.ownBlock = none ∨ vL.ownBlock ≠ row) : Re rb lo vL lines a y := by
  obtain ⟨g0, -, g2, g3, g4, g5⟩ := h
  have hk := hg.block rb g0 (fun e => h1 e.symm)
  exact ⟨Nat.lt_of_lt_of_le g0 hg.size, trivial, (World.cell?_of_block (w := x) (a := ⟨rb, 0, none⟩) hk).trans g2, (World.frozen?_of_block (w := x) (a := ⟨rb, 0, none⟩) hk).trans g3, World.ownsRow.kept g4 hg h2, g5⟩
/-- The line at a. -/
theorem Re.line {rb lo : Nat} {vL : Value} {lines : List (List UInt8)} {a : Nat} {x : World} (h : Re rb lo vL lines a x) {i : Nat} (ha : i < lines.length) : ∃ lb cap, vL = .slice (some ⟨lb, 0, none⟩) lines.length cap ∧ lb < x.heap.size ∧ lb ≠ rb ∧ x.cell? ⟨lb, i, none⟩ = some (.string (bs (lines.getD i []))) := by
  obtain ⟨h0, h1, h2, h3, h4, h5⟩ := h
  obtain ⟨oa, cap, rfl⟩ := h4.form
  obtain ⟨g, e, g1, g2, hc, -⟩ := h4.at (k := i) ha
  subst e
  refine ⟨g, cap, rfl, g2, fun e => h5 (by rw [e]; rfl), ?_⟩
  rw [hc]
  simp [List.getD, ha, bs]
section
variable {rb lo : Nat} {vL : Value} {lines : List (List UInt8)}
/-- What part answers. -/
def PuPost (k rb lo : Nat) (vL : Value) (lines : List (List UInt8)) (r : PtP) (w : World) (e : Ending) (w' : World) : Prop :=
  Re rb lo vL lines r.pos w' ∧ w.grownBy w' (some rb) ∧
  (r.err = 0 → ∃ u v, e = .returned (.tuple #[.agg #[.string r.part.name, u, v], .int .i64 0]) ∧ QPart (fun b => w.heap.size ≤ b ∧ b < w'.heap.size) k w' u v r.part) ∧
  (r.err ≠ 0 → ∃ nm oa n c ob m d, e = .returned (.tuple #[.agg #[.string nm, .slice oa n c, .slice ob m d], .int .i64 r.err]))
/-- part ahead of its loop. -/
def PuZ (rb lo : Nat) (vL : Value) (lines : List (List UInt8)) (w : World) (a : Nat) (x : World) : Prop :=
  Below w.heap.size w x ∧ w.heap.size < x.heap.size ∧ Z3 w.heap.size x ∧ Re rb lo vL lines a x ∧ rb < w.heap.size ∧ (∀ lb, vL.ownBlock = some lb → lb < w.heap.size)
theorem PuZ.call {w : World} {a : Nat} {x y : World} (h : PuZ rb lo vL lines w a x) (hb : Below x.heap.size x y) : PuZ rb lo vL lines w a y :=
  ⟨thenB h.1 hb, Nat.lt_of_lt_of_le h.2.1 hb.size, h.2.2.1.keep (hb.block _ h.2.1), h.2.2.2.1.call hb, h.2.2.2.2⟩
theorem PuZ.start {w : World} {a : Nat} (h : Re rb lo vL lines a w) : PuZ rb lo vL lines w a (w.alloc (.cells #[.string ⟨#[]⟩, .slice none 0 0, .slice none 0 0] 25)) := by
  have hb : Below w.heap.size w (w.alloc (.cells #[.string ⟨#[]⟩, .slice none 0 0, .slice none 0 0] 25)) := (Below.refl _ _).alloc (Nat.le_refl _) _
  exact ⟨hb, by simp, ⟨by simp, by simp, by simp, by simp, by simp, by simp⟩, h.call hb, h.1, fun lb hl => (World.ownsRow.lt h.2.2.2.2.1 lb hl).2⟩
theorem PuZ.bad {w : World} {a k : Nat} {x y : World} {r : PtP} (h : PuZ rb lo vL lines w a x) (hg : x.grownBy y (some w.heap.size)) {x0 : Int} (hr : r.err = x0) (hr0 : x0 ≠ 0) (hp : r.pos = a) {nm : ByteArray} {oa ob : Option Addr} {n c m d : Nat} : PuPost k rb lo vL lines r w (.returned (.tuple #[.agg #[.string nm, .slice oa n c, .slice ob m d], .int .i64 x0])) y := by
  refine ⟨?_, ?_, fun h0 => absurd (hr.symm.trans h0) hr0, fun _ => ⟨nm, oa, n, c, ob, m, d, by rw [hr]⟩⟩
  · rw [hp]
    exact h.2.2.2.1.far hg (fun e => by injection e with e; have := h.2.2.2.2.1; omega) (by
      cases hv : vL.ownBlock with
      | none => exact .inl rfl
      | some k => exact .inr fun e => by have := h.2.2.2.2.2 k hv; injection e with e; omega)
  · exact grown_then (grown_call h.1 _) hg (fun k hk => .inl (by injection hk with hk; omega))
/-- part in its loop: all but the two rows. -/
def PuS (rb lo : Nat) (vL : Value) (lines : List (List UInt8)) (w : World) (X0 : Nat) (nm : ByteArray) (u v : Value) (a : Nat) (x : World) : Prop :=
  (rb < w.heap.size ∧ (∀ lb, vL.ownBlock = some lb → lb < w.heap.size)) ∧ w.grownBy x (some rb) ∧ (w.heap.size < X0 ∧ X0 < x.heap.size) ∧ Z3 w.heap.size x ∧
  (x.cell? ⟨X0, 0, none⟩ = some (.string nm) ∧ x.cell? ⟨X0, 1, none⟩ = some u ∧ x.frozen? ⟨X0, 1, none⟩ = false ∧ x.cell? ⟨X0, 2, none⟩ = some v ∧ x.frozen? ⟨X0, 2, none⟩ = false) ∧ Re rb lo vL lines a x
variable {w : World} {X0 : Nat} {nm : ByteArray} {u v : Value} {a : Nat} {x y : World}
theorem PuS.step (h : PuS rb lo vL lines w X0 nm u v a x) (hg : x.grownBy y (some rb)) {a2 : Nat} (hr : Re rb lo vL lines a2 y) : PuS rb lo vL lines w X0 nm u v a2 y := by
  obtain ⟨h0, h1, ⟨h2, h3⟩, h4, ⟨b1, b2, b3, b4, b5⟩, -⟩ := h
  have hX := hg.block X0 h3 (fun e => by injection e with e; omega)
  have hH := hg.block w.heap.size (by omega) (fun e => by injection e with e; omega)
  exact ⟨h0, grown_then h1 hg (fun k hk => .inr hk), ⟨h2, Nat.lt_of_lt_of_le h3 hg.size⟩, h4.keep hH, ⟨(World.cell?_of_block (a := ⟨X0, 0, none⟩) hX).trans b1, (World.cell?_of_block (a := ⟨X0, 1, none⟩) hX).trans b2, (World.frozen?_of_block (a := ⟨X0, 1, none⟩) hX).trans b3, (World.cell?_of_block (a := ⟨X0, 2, none⟩) hX).trans b4, (World.frozen?_of_block (a := ⟨X0, 2, none⟩) hX).trans b5⟩, hr⟩
theorem PuS.call (h : PuS rb lo vL lines w X0 nm u v a x) (hb : Below x.heap.size x y) : PuS rb lo vL lines w X0 nm u v a y := h.step (grown_call hb _) (h.2.2.2.2.2.call hb)
theorem PuS.at (h : PuS rb lo vL lines w X0 nm u v a x) (b : Nat) : PuS rb lo vL lines w X0 nm u v b (x.setCell ⟨rb, 0, none⟩ (.int .i64 (b : Int))) := h.step (grown_set _ _ _) (h.2.2.2.2.2.put b)
theorem PuS.app (h : PuS rb lo vL lines w X0 nm u v a x) {row : Option Nat} (hg : x.grownBy y row) (hr : ∀ k, row = some k → X0 < k) : PuS rb lo vL lines w X0 nm u v a y := by
  obtain ⟨h0, h1, ⟨h2, h3⟩, h4, ⟨b1, b2, b3, b4, b5⟩, h6⟩ := h
  have hX := hg.block X0 h3 (fun e => by have := hr _ e.symm; omega)
  have hH := hg.block w.heap.size (by omega) (fun e => by have := hr _ e.symm; omega)
  refine ⟨h0, grown_then h1 hg (fun k hk => .inl (by have := hr k hk; omega)), ⟨h2, Nat.lt_of_lt_of_le h3 hg.size⟩, h4.keep hH, ⟨(World.cell?_of_block (a := ⟨X0, 0, none⟩) hX).trans b1, (World.cell?_of_block (a := ⟨X0, 1, none⟩) hX).trans b2, (World.frozen?_of_block (a := ⟨X0, 1, none⟩) hX).trans b3, (World.cell?_of_block (a := ⟨X0, 2, none⟩) hX).trans b4, (World.frozen?_of_block (a := ⟨X0, 2, none⟩) hX).trans b5⟩, h6.far hg (fun e => by have := hr _ e; omega) ?_⟩
  cases hv : vL.ownBlock with
  | none => exact .inl rfl
  | some k => exact .inr fun e => by have := h0.2 k hv; have := hr _ e.symm; omega
theorem PuS.putU (h : PuS rb lo vL lines w X0 nm u v a x) (u2 : Value) : PuS rb lo vL lines w X0 nm u2 v a (x.setCell ⟨X0, 1, none⟩ u2) := by
  obtain ⟨h0, h1, ⟨h2, h3⟩, h4, ⟨b1, b2, b3, b4, b5⟩, h6⟩ := h
  have hg := grown_set x ⟨X0, 1, none⟩ u2
  refine ⟨h0, grown_then h1 hg (fun k hk => .inl (by injection hk with hk; simp at hk; omega)), ⟨h2, Nat.lt_of_lt_of_le h3 hg.size⟩, h4.keep (hg.block _ (by omega) (fun e => by injection e with e; simp at e; omega)), ⟨?_, World.cell?_setCell_same _ _ _ b2, by rw [World.frozen?_setCell]; exact b3, ?_, by rw [World.frozen?_setCell]; exact b5⟩, h6.far hg (fun e => by injection e with e; simp at e; omega) ?_⟩
  · rw [World.cell?_setCell_other _ _ _ _ (by simp)]; exact b1
  · rw [World.cell?_setCell_other _ _ _ _ (by simp)]; exact b4
  · cases hv : vL.ownBlock with
    | none => exact .inl rfl
    | some k => exact .inr fun e => by have := h0.2 k hv; injection e with e; simp at e; omega
theorem PuS.putV (h : PuS rb lo vL lines w X0 nm u v a x) (v2 : Value) : PuS rb lo vL lines w X0 nm u v2 a (x.setCell ⟨X0, 2, none⟩ v2) := by
  obtain ⟨h0, h1, ⟨h2, h3⟩, h4, ⟨b1, b2, b3, b4, b5⟩, h6⟩ := h
  have hg := grown_set x ⟨X0, 2, none⟩ v2
  refine ⟨h0, grown_then h1 hg (fun k hk => .inl (by injection hk with hk; simp at hk; omega)), ⟨h2, Nat.lt_of_lt_of_le h3 hg.size⟩, h4.keep (hg.block _ (by omega) (fun e => by injection e with e; simp at e; omega)), ⟨?_, ?_, by rw [World.frozen?_setCell]; exact b3, World.cell?_setCell_same _ _ _ b4, by rw [World.frozen?_setCell]; exact b5⟩, h6.far hg (fun e => by injection e with e; simp at e; omega) ?_⟩
  · rw [World.cell?_setCell_other _ _ _ _ (by simp)]; exact b1
  · rw [World.cell?_setCell_other _ _ _ _ (by simp)]; exact b2
  · cases hv : vL.ownBlock with
    | none => exact .inl rfl
    | some k => exact .inr fun e => by have := h0.2 k hv; injection e with e; simp at e; omega
theorem PuZ.go (h : PuZ rb lo vL lines w a x) (nm : ByteArray) : PuS rb lo vL lines w x.heap.size nm (.slice none 0 0) (.slice none 0 0) a (x.alloc (.cells #[.string nm, .slice none 0 0, .slice none 0 0] 25)) := by
  have hb : Below x.heap.size x (x.alloc (.cells #[.string nm, .slice none 0 0, .slice none 0 0] 25)) := (Below.refl _ _).alloc (Nat.le_refl _) _
  obtain ⟨g1, g2, g3, g4, g5, g6⟩ := h.call hb
  exact ⟨⟨g5, g6⟩, grown_call g1 _, ⟨h.2.1, by simp⟩, g3, ⟨by simp, by simp, by simp, by simp, by simp⟩, g4⟩
variable {k M : Nat} {ls : List Ln} {ps : List Part} {l : List (Part × Value × Value)}
/-- The end of part. -/
theorem PuS.bad (h : PuS rb lo vL lines w X0 nm u v a x) (hg : x.grownBy y (some w.heap.size)) {r : PtP} {x0 : Int} (hr : r.err = x0) (hr0 : x0 ≠ 0) (hp : r.pos = a) {oa ob : Option Addr} {n c m d : Nat} {n2 : ByteArray} : PuPost k rb lo vL lines r w (.returned (.tuple #[.agg #[.string n2, .slice oa n c, .slice ob m d], .int .i64 x0])) y := by
  obtain ⟨h0, h1, -, -, -, h6⟩ := h
  refine ⟨?_, ?_, fun h0 => absurd (hr.symm.trans h0) hr0, fun _ => ⟨n2, oa, n, c, ob, m, d, by rw [hr]⟩⟩
  · rw [hp]
    exact h6.far hg (fun e => by injection e with e; omega) (by
      cases hv : vL.ownBlock with
      | none => exact .inl rfl
      | some k => exact .inr fun e => by have := h0.2 k hv; injection e with e; omega)
  · exact grown_then h1 hg (fun k hk => .inl (by injection hk with hk; omega))
theorem PuS.good (h : PuS rb lo vL lines w X0 nm u v a x) (hR : Rows2 k X0 u v ls ps x) (hg : x.grownBy y (some w.heap.size)) {r : PtP} (hr : r = ⟨0, .mk nm ls ps, a⟩) : PuPost (k + 1) rb lo vL lines r w (.returned (.tuple #[.agg #[.string nm, u, v], .int .i64 0])) y := by
  subst hr
  obtain ⟨h0, h1, ⟨h2, h3⟩, -, -, h6⟩ := h
  refine ⟨?_, ?_, fun _ => ⟨u, v, rfl, ?_⟩, fun h0 => absurd rfl h0⟩
  · exact h6.far hg (fun e => by injection e with e; omega) (by
      cases hv : vL.ownBlock with
      | none => exact .inl rfl
      | some k => exact .inr fun e => by have := h0.2 k hv; injection e with e; omega)
  · exact grown_then h1 hg (fun k hk => .inl (by injection hk with hk; omega))
  · exact QPart.keep ((hR.grown hg (by omega)).q nm) fun b hb => ⟨⟨by omega, hb.2⟩, rfl⟩
end
end Go.Proofs.YtidgahnamdhflaaDoor
