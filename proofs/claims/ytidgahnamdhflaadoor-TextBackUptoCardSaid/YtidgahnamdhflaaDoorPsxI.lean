/- A part under way. -/
import Derived.Test.YtidgahnamdhflaaDoorPsxH
namespace Go.Proofs.YtidgahnamdhflaaDoor
open Go.RowKit Go.Shelf Fld Prt Psx
theorem grown_call {x y : World} (hb : Below x.heap.size x y) (row : Option Nat) : x.grownBy y row := ⟨hb.os, hb.tape, hb.output, hb.size, fun k hk _ => hb.block k hk⟩
theorem grown_set (x : World) (p : Addr) (u : Value) : x.grownBy (x.setCell p u) (some p.block) := ⟨rfl, rfl, rfl, by simp [World.setCell], fun k _ hne => Below.heap_setCell x p u k (fun e => hne (by rw [e]))⟩
theorem grown_then {w x y : World} {r r2 : Option Nat} (h : w.grownBy x r) (h2 : x.grownBy y r2) (hr : ∀ k, r2 = some k → w.heap.size ≤ k ∨ r = some k) : w.grownBy y r :=
  ⟨h2.os.trans h.os, h2.tape.trans h.tape, h2.output.trans h.output, Nat.le_trans h.size h2.size, fun k hk hne => (h2.block k (Nat.lt_of_lt_of_le hk h.size) (fun e => (hr k e.symm).elim (fun h1 => absurd hk (by omega)) (fun h1 => hne h1.symm))).trans (h.block k hk hne)⟩
theorem RowQ.grown {α : Type} {Q : (Nat → Prop) → World → α → Prop} {C : α → List Value} {E : TypeId} {z lo rb : Nat} {x y : World} {v : Value} {l : List α} (hQ : KeepQ Q) (h : RowQ Q C E z lo x v l) (hg : x.grownBy y (some rb)) (hr : rb < lo) : RowQ Q C E z lo y v l :=
  ⟨World.ownsRow.kept h.1 hg (by
    cases hv : v.ownBlock with
    | none => exact .inl rfl
    | some k => exact .inr fun e => by have := (World.ownsRow.lt h.1 k hv).1; injection e with e; omega), fun a ha => hQ _ _ _ _ a (h.2 a ha) fun b hb2 => ⟨⟨hb2.1, Nat.lt_of_lt_of_le hb2.2.1 hg.size, hb2.2.2⟩, hg.block b hb2.2.1 (fun e => by injection e with e; have := hb2.1; omega)⟩⟩
/-- The result's block with nothing in it. -/
def Z3 (H : Nat) (x : World) : Prop :=
  x.cell? ⟨H, 0, none⟩ = some (.string ⟨#[]⟩) ∧ x.frozen? ⟨H, 0, none⟩ = false ∧ x.cell? ⟨H, 1, none⟩ = some (.slice none 0 0) ∧ x.frozen? ⟨H, 1, none⟩ = false ∧ x.cell? ⟨H, 2, none⟩ = some (.slice none 0 0) ∧ x.frozen? ⟨H, 2, none⟩ = false
theorem Z3.keep {H : Nat} {x y : World} (h : Z3 H x) (hk : y.heap[H]? = x.heap[H]?) : Z3 H y := by
  obtain ⟨a1, a2, a3, a4, a5, a6⟩ := h
  exact ⟨(World.cell?_of_block (a := ⟨H, 0, none⟩) hk).trans a1, (World.frozen?_of_block (a := ⟨H, 0, none⟩) hk).trans a2, (World.cell?_of_block (a := ⟨H, 1, none⟩) hk).trans a3, (World.frozen?_of_block (a := ⟨H, 1, none⟩) hk).trans a4, (World.cell?_of_block (a := ⟨H, 2, none⟩) hk).trans a5, (World.frozen?_of_block (a := ⟨H, 2, none⟩) hk).trans a6⟩
/-- The result's block, filled. -/
theorem Z3.fill {H : Nat} {x y : World} {c0 c1 c2 : Value} (h : Z3 H x) (hy : y = ((x.setCell ⟨H, 0, none⟩ c0).setCell ⟨H, 1, none⟩ c1).setCell ⟨H, 2, none⟩ c2) : y.cell? ⟨H, 0, none⟩ = some c0 ∧ y.cell? ⟨H, 1, none⟩ = some c1 ∧ y.cell? ⟨H, 2, none⟩ = some c2 ∧ x.grownBy y (some H) := by
  subst hy
  obtain ⟨a1, a2, a3, a4, a5, a6⟩ := h
  have c0' : (x.setCell ⟨H, 0, none⟩ c0).cell? ⟨H, 0, none⟩ = some c0 := World.cell?_setCell_same _ _ _ a1
  have c1' : (x.setCell ⟨H, 0, none⟩ c0).cell? ⟨H, 1, none⟩ = some (.slice none 0 0) := by rw [World.cell?_setCell_other _ _ _ _ (by simp)]; exact a3
  have c2' : ((x.setCell ⟨H, 0, none⟩ c0).setCell ⟨H, 1, none⟩ c1).cell? ⟨H, 2, none⟩ = some (.slice none 0 0) := by rw [World.cell?_setCell_other _ _ _ _ (by simp), World.cell?_setCell_other _ _ _ _ (by simp)]; exact a5
  refine ⟨?_, ?_, World.cell?_setCell_same _ _ _ c2', grown_then (grown_then (grown_set _ _ _) (grown_set _ _ _) (fun k hk => .inr hk)) (grown_set _ _ _) (fun k hk => .inr hk)⟩
  · rw [World.cell?_setCell_other _ _ _ _ (by simp), World.cell?_setCell_other _ _ _ _ (by simp)]; exact c0'
  · rw [World.cell?_setCell_other _ _ _ _ (by simp)]; exact World.cell?_setCell_same _ _ _ c1'
section
variable {rb lo : Nat} {vL : Value} {lines : List (List UInt8)}
/-- What part answers. -/
def PtPost (k rb lo : Nat) (vL : Value) (lines : List (List UInt8)) (r : PtP) (w : World) (e : Ending) (w' : World) : Prop :=
  Rd rb lo vL lines r.pos w' ∧ w.grownBy w' (some rb) ∧
  (r.err = 0 → ∃ u v, e = .returned (.tuple #[.agg #[.string r.part.name, u, v], .nilIface]) ∧ QPart (fun b => w.heap.size ≤ b ∧ b < w'.heap.size) k w' u v r.part) ∧
  (r.err ≠ 0 → ∃ nm oa n c ob m d, e = .returned (.tuple #[.agg #[.string nm, .slice oa n c, .slice ob m d], .iface 26 (.int .i64 r.err)]))
/-- part ahead of its loop. -/
def PtZ (rb lo : Nat) (vL : Value) (lines : List (List UInt8)) (w : World) (a : Nat) (x : World) : Prop :=
  Below w.heap.size w x ∧ w.heap.size < x.heap.size ∧ Z3 w.heap.size x ∧ Rd rb lo vL lines a x ∧ rb < w.heap.size ∧ (∀ lb, vL.ownBlock = some lb → lb < w.heap.size)
theorem PtZ.call {w : World} {a : Nat} {x y : World} (h : PtZ rb lo vL lines w a x) (hb : Below x.heap.size x y) : PtZ rb lo vL lines w a y :=
  ⟨thenB h.1 hb, Nat.lt_of_lt_of_le h.2.1 hb.size, h.2.2.1.keep (hb.block _ h.2.1), h.2.2.2.1.call hb, h.2.2.2.2⟩
theorem PtZ.start {w : World} {a : Nat} (h : Rd rb lo vL lines a w) : PtZ rb lo vL lines w a (w.alloc (.cells #[.string ⟨#[]⟩, .slice none 0 0, .slice none 0 0] 25)) := by
  have hb : Below w.heap.size w (w.alloc (.cells #[.string ⟨#[]⟩, .slice none 0 0, .slice none 0 0] 25)) := (Below.refl _ _).alloc (Nat.le_refl _) _
  exact ⟨hb, by simp, ⟨by simp, by simp, by simp, by simp, by simp, by simp⟩, h.call hb, h.1, fun lb hl => (World.ownsRow.lt h.2.2.2.2.1 lb hl).2⟩
theorem PtZ.bad {w : World} {a k : Nat} {x y : World} {r : PtP} (h : PtZ rb lo vL lines w a x) (hg : x.grownBy y (some w.heap.size)) {x0 : Int} (hr : r.err = x0) (hr0 : x0 ≠ 0) (hp : r.pos = a) {nm : ByteArray} {oa ob : Option Addr} {n c m d : Nat} : PtPost k rb lo vL lines r w (.returned (.tuple #[.agg #[.string nm, .slice oa n c, .slice ob m d], .iface 26 (.int .i64 x0)])) y := by
  refine ⟨?_, ?_, fun h0 => absurd (hr.symm.trans h0) hr0, fun _ => ⟨nm, oa, n, c, ob, m, d, by rw [hr]⟩⟩
  · rw [hp]
    exact h.2.2.2.1.far hg (fun e => by injection e with e; have := h.2.2.2.2.1; omega) (by
      cases hv : vL.ownBlock with
      | none => exact .inl rfl
      | some k => exact .inr fun e => by have := h.2.2.2.2.2 k hv; injection e with e; omega)
  · exact grown_then (grown_call h.1 _) hg (fun k hk => .inl (by injection hk with hk; omega))
/-- part in its loop: all but the two rows. -/
def PtS (rb lo : Nat) (vL : Value) (lines : List (List UInt8)) (w : World) (X0 : Nat) (nm : ByteArray) (u v : Value) (a : Nat) (x : World) : Prop :=
  (rb < w.heap.size ∧ (∀ lb, vL.ownBlock = some lb → lb < w.heap.size)) ∧ w.grownBy x (some rb) ∧ (w.heap.size < X0 ∧ X0 < x.heap.size) ∧ Z3 w.heap.size x ∧
  (x.cell? ⟨X0, 0, none⟩ = some (.string nm) ∧ x.cell? ⟨X0, 1, none⟩ = some u ∧ x.frozen? ⟨X0, 1, none⟩ = false ∧ x.cell? ⟨X0, 2, none⟩ = some v ∧ x.frozen? ⟨X0, 2, none⟩ = false) ∧ Rd rb lo vL lines a x
variable {w : World} {X0 : Nat} {nm : ByteArray} {u v : Value} {a : Nat} {x y : World}
theorem PtS.step (h : PtS rb lo vL lines w X0 nm u v a x) (hg : x.grownBy y (some rb)) {a2 : Nat} (hr : Rd rb lo vL lines a2 y) : PtS rb lo vL lines w X0 nm u v a2 y := by
  obtain ⟨h0, h1, ⟨h2, h3⟩, h4, ⟨b1, b2, b3, b4, b5⟩, -⟩ := h
  have hX := hg.block X0 h3 (fun e => by injection e with e; omega)
  have hH := hg.block w.heap.size (by omega) (fun e => by injection e with e; omega)
  exact ⟨h0, grown_then h1 hg (fun k hk => .inr hk), ⟨h2, Nat.lt_of_lt_of_le h3 hg.size⟩, h4.keep hH, ⟨(World.cell?_of_block (a := ⟨X0, 0, none⟩) hX).trans b1, (World.cell?_of_block (a := ⟨X0, 1, none⟩) hX).trans b2, (World.frozen?_of_block (a := ⟨X0, 1, none⟩) hX).trans b3, (World.cell?_of_block (a := ⟨X0, 2, none⟩) hX).trans b4, (World.frozen?_of_block (a := ⟨X0, 2, none⟩) hX).trans b5⟩, hr⟩
theorem PtS.call (h : PtS rb lo vL lines w X0 nm u v a x) (hb : Below x.heap.size x y) : PtS rb lo vL lines w X0 nm u v a y := h.step (grown_call hb _) (h.2.2.2.2.2.call hb)
theorem PtS.at (h : PtS rb lo vL lines w X0 nm u v a x) (b : Nat) : PtS rb lo vL lines w X0 nm u v b (x.setCell ⟨rb, 1, none⟩ (.int .i64 (b : Int))) := h.step (grown_set _ _ _) (h.2.2.2.2.2.put b)
theorem PtS.app (h : PtS rb lo vL lines w X0 nm u v a x) {row : Option Nat} (hg : x.grownBy y row) (hr : ∀ k, row = some k → X0 < k) : PtS rb lo vL lines w X0 nm u v a y := by
  obtain ⟨h0, h1, ⟨h2, h3⟩, h4, ⟨b1, b2, b3, b4, b5⟩, h6⟩ := h
  have hX := hg.block X0 h3 (fun e => by have := hr _ e.symm; omega)
  have hH := hg.block w.heap.size (by omega) (fun e => by have := hr _ e.symm; omega)
  refine ⟨h0, grown_then h1 hg (fun k hk => .inl (by have := hr k hk; omega)), ⟨h2, Nat.lt_of_lt_of_le h3 hg.size⟩, h4.keep hH, ⟨(World.cell?_of_block (a := ⟨X0, 0, none⟩) hX).trans b1, (World.cell?_of_block (a := ⟨X0, 1, none⟩) hX).trans b2, (World.frozen?_of_block (a := ⟨X0, 1, none⟩) hX).trans b3, (World.cell?_of_block (a := ⟨X0, 2, none⟩) hX).trans b4, (World.frozen?_of_block (a := ⟨X0, 2, none⟩) hX).trans b5⟩, h6.far hg (fun e => by have := hr _ e; omega) ?_⟩
  cases hv : vL.ownBlock with
  | none => exact .inl rfl
  | some k => exact .inr fun e => by have := h0.2 k hv; have := hr _ e.symm; omega
theorem PtS.putU (h : PtS rb lo vL lines w X0 nm u v a x) (u2 : Value) : PtS rb lo vL lines w X0 nm u2 v a (x.setCell ⟨X0, 1, none⟩ u2) := by
  obtain ⟨h0, h1, ⟨h2, h3⟩, h4, ⟨b1, b2, b3, b4, b5⟩, h6⟩ := h
  have hg := grown_set x ⟨X0, 1, none⟩ u2
  refine ⟨h0, grown_then h1 hg (fun k hk => .inl (by injection hk with hk; simp at hk; omega)), ⟨h2, Nat.lt_of_lt_of_le h3 hg.size⟩, h4.keep (hg.block _ (by omega) (fun e => by injection e with e; simp at e; omega)), ⟨?_, World.cell?_setCell_same _ _ _ b2, by rw [World.frozen?_setCell]; exact b3, ?_, by rw [World.frozen?_setCell]; exact b5⟩, h6.far hg (fun e => by injection e with e; simp at e; omega) ?_⟩
  · rw [World.cell?_setCell_other _ _ _ _ (by simp)]; exact b1
  · rw [World.cell?_setCell_other _ _ _ _ (by simp)]; exact b4
  · cases hv : vL.ownBlock with
    | none => exact .inl rfl
    | some k => exact .inr fun e => by have := h0.2 k hv; injection e with e; simp at e; omega
theorem PtS.putV (h : PtS rb lo vL lines w X0 nm u v a x) (v2 : Value) : PtS rb lo vL lines w X0 nm u v2 a (x.setCell ⟨X0, 2, none⟩ v2) := by
  obtain ⟨h0, h1, ⟨h2, h3⟩, h4, ⟨b1, b2, b3, b4, b5⟩, h6⟩ := h
  have hg := grown_set x ⟨X0, 2, none⟩ v2
  refine ⟨h0, grown_then h1 hg (fun k hk => .inl (by injection hk with hk; simp at hk; omega)), ⟨h2, Nat.lt_of_lt_of_le h3 hg.size⟩, h4.keep (hg.block _ (by omega) (fun e => by injection e with e; simp at e; omega)), ⟨?_, ?_, by rw [World.frozen?_setCell]; exact b3, World.cell?_setCell_same _ _ _ b4, by rw [World.frozen?_setCell]; exact b5⟩, h6.far hg (fun e => by injection e with e; simp at e; omega) ?_⟩
  · rw [World.cell?_setCell_other _ _ _ _ (by simp)]; exact b1
  · rw [World.cell?_setCell_other _ _ _ _ (by simp)]; exact b2
  · cases hv : vL.ownBlock with
    | none => exact .inl rfl
    | some k => exact .inr fun e => by have := h0.2 k hv; injection e with e; simp at e; omega
theorem PtZ.go (h : PtZ rb lo vL lines w a x) (nm : ByteArray) : PtS rb lo vL lines w x.heap.size nm (.slice none 0 0) (.slice none 0 0) a (x.alloc (.cells #[.string nm, .slice none 0 0, .slice none 0 0] 25)) := by
  have hb : Below x.heap.size x (x.alloc (.cells #[.string nm, .slice none 0 0, .slice none 0 0] 25)) := (Below.refl _ _).alloc (Nat.le_refl _) _
  obtain ⟨g1, g2, g3, g4, g5, g6⟩ := h.call hb
  exact ⟨⟨g5, g6⟩, grown_call g1 _, ⟨h.2.1, by simp⟩, g3, ⟨by simp, by simp, by simp, by simp, by simp⟩, g4⟩
/-- The rows: no part yet. -/
def RowA (X0 : Nat) (u : Value) (ls : List Ln) (x : World) : Prop := ∃ l, l.map Prod.fst = ls ∧ RowQ qLn cLn 64 3 (X0 + 1) x u l
/-- The rows: parts behind the lines. -/
def RowB (k X0 M : Nat) (u v : Value) (ls : List Ln) (l : List (Part × Value × Value)) (x : World) : Prop :=
  X0 < M ∧ M ≤ x.heap.size ∧ QLn (fun b => X0 < b ∧ b < M) x u ls ∧ RowQ (qPart k) cPart 25 3 M x v l
def Rows2 (k X0 : Nat) (u v : Value) (ls : List Ln) (ps : List Part) (x : World) : Prop :=
  (ps = [] ∧ v = .slice none 0 0 ∧ RowA X0 u ls x) ∨ (ps ≠ [] ∧ ∃ M l, l.map Prod.fst = ps ∧ RowB k X0 M u v ls l x)
variable {k M : Nat} {ls : List Ln} {ps : List Part} {l : List (Part × Value × Value)}
theorem RowA.grown (h : RowA X0 u ls x) {r : Nat} (hg : x.grownBy y (some r)) (hr : r ≤ X0) : RowA X0 u ls y := by
  obtain ⟨l, h1, h2⟩ := h; exact ⟨l, h1, h2.grown qLn_keep hg (by omega)⟩
theorem RowB.grown (h : RowB k X0 M u v ls l x) {r : Nat} (hg : x.grownBy y (some r)) (hr : r ≤ X0) : RowB k X0 M u v ls l y := by
  obtain ⟨h1, h2, h3, h4⟩ := h
  exact ⟨h1, Nat.le_trans h2 hg.size, h3.keep (fun b hb => ⟨hb, hg.block b (by omega) (fun e => by injection e with e; omega)⟩), h4.grown (qPart_keep k) hg (by omega)⟩
theorem Rows2.grown (h : Rows2 k X0 u v ls ps x) {r : Nat} (hg : x.grownBy y (some r)) (hr : r ≤ X0) : Rows2 k X0 u v ls ps y := by
  rcases h with ⟨h1, h2, h3⟩ | ⟨h1, M, l, h2, h3⟩
  · exact .inl ⟨h1, h2, h3.grown hg hr⟩
  · exact .inr ⟨h1, M, l, h2, h3.grown hg hr⟩
theorem Rows2.toB (h : Rows2 k X0 u v ls ps x) (hX : X0 < x.heap.size) : ∃ M l, l.map Prod.fst = ps ∧ RowB k X0 M u v ls l x := by
  rcases h with ⟨rfl, rfl, l, rfl, h3⟩ | ⟨_, M, l, h2, h3⟩
  · exact ⟨x.heap.size, [], rfl, hX, Nat.le_refl _, h3.ln fun b g1 g2 => ⟨by omega, g2⟩, RowQ.nil⟩
  · exact ⟨M, l, h2, h3⟩
theorem Rows2.q (h : Rows2 k X0 u v ls ps x) (nm : ByteArray) : QPart (fun b => X0 < b ∧ b < x.heap.size) (k + 1) x u v (.mk nm ls ps) := by
  rcases h with ⟨rfl, rfl, l, rfl, h3⟩ | ⟨_, M, l, rfl, h3, h4, h5, h6⟩
  · exact RowQ.part (l := []) (k := k) (E := 25) (lo := X0 + 1) (h3.ln fun b g1 g2 => ⟨by omega, g2⟩) RowQ.nil fun b g1 g2 => ⟨by omega, g2⟩
  · exact RowQ.part (h5.keep fun b hb => ⟨⟨hb.1, by omega⟩, rfl⟩) h6 fun b g1 g2 => ⟨by omega, g2⟩
theorem QLn.form {S : Nat → Prop} {w : World} {v : Value} {L : List Ln} (h : QLn S w v L) : ∃ oa cap, v = .slice oa L.length cap := by
  obtain ⟨oa, cap, h1, _⟩ := h; exact ⟨oa, cap, h1⟩
theorem Rows2.form (h : Rows2 k X0 u v ls ps x) : (∃ oa cap, u = .slice oa ls.length cap) ∧ ∃ oa cap, v = .slice oa ps.length cap := by
  rcases h with ⟨rfl, rfl, l, rfl, h3⟩ | ⟨_, M, l, rfl, h3, h4, h5, h6⟩
  · exact ⟨by rw [List.length_map]; exact h3.form, none, 0, rfl⟩
  · exact ⟨h5.form, by rw [List.length_map]; exact h6.form⟩
/-- The end of part. -/
theorem PtS.bad (h : PtS rb lo vL lines w X0 nm u v a x) (hg : x.grownBy y (some w.heap.size)) {r : PtP} {x0 : Int} (hr : r.err = x0) (hr0 : x0 ≠ 0) (hp : r.pos = a) {oa ob : Option Addr} {n c m d : Nat} {n2 : ByteArray} : PtPost k rb lo vL lines r w (.returned (.tuple #[.agg #[.string n2, .slice oa n c, .slice ob m d], .iface 26 (.int .i64 x0)])) y := by
  obtain ⟨h0, h1, -, -, -, h6⟩ := h
  refine ⟨?_, ?_, fun h0 => absurd (hr.symm.trans h0) hr0, fun _ => ⟨n2, oa, n, c, ob, m, d, by rw [hr]⟩⟩
  · rw [hp]
    exact h6.far hg (fun e => by injection e with e; omega) (by
      cases hv : vL.ownBlock with
      | none => exact .inl rfl
      | some k => exact .inr fun e => by have := h0.2 k hv; injection e with e; omega)
  · exact grown_then h1 hg (fun k hk => .inl (by injection hk with hk; omega))
theorem PtS.good (h : PtS rb lo vL lines w X0 nm u v a x) (hR : Rows2 k X0 u v ls ps x) (hg : x.grownBy y (some w.heap.size)) {r : PtP} (hr : r = ⟨0, .mk nm ls ps, a⟩) : PtPost (k + 1) rb lo vL lines r w (.returned (.tuple #[.agg #[.string nm, u, v], .nilIface])) y := by
  subst hr
  obtain ⟨h0, h1, ⟨h2, h3⟩, -, -, h6⟩ := h
  refine ⟨?_, ?_, fun _ => ⟨u, v, rfl, ?_⟩, fun h0 => absurd rfl h0⟩
  · exact h6.far hg (fun e => by injection e with e; omega) (by
      cases hv : vL.ownBlock with
      | none => exact .inl rfl
      | some k => exact .inr fun e => by have := h0.2 k hv; injection e with e; omega)
  · exact grown_then h1 hg (fun k hk => .inl (by injection hk with hk; omega))
  · exact QPart.keep ((hR.grown hg (by omega)).q nm) fun b hb => ⟨⟨by omega, hb.2⟩, rfl⟩
end
end Go.Proofs.YtidgahnamdhflaaDoor
