/- parseLine. -/
import Derived.Test.YtidgahnamdhflaaDoorPsxF
namespace Go.Proofs.YtidgahnamdhflaaDoor
open Go.RowKit Go.Shelf Fld Prt Psx
theorem prmsP_end {g : Nat} {acc : List Prm} {s : List UInt8} (h : s.head? ≠ some 59) : prmsP (g + 1) acc s = (0, acc, s) := by
  unfold prmsP; rw [if_neg h]
theorem prmsP_bad {g : Nat} {acc : List Prm} {s : List UInt8} (h : s.head? = some 59) (h2 : (prmP s.tail).1 ≠ 0) : (prmsP (g + 1) acc s).1 = (prmP s.tail).1 := by
  unfold prmsP; rw [if_pos h]; simp only; rw [if_pos h2]
theorem prmsP_go {g : Nat} {acc : List Prm} {s : List UInt8} (h : s.head? = some 59) (h2 : (prmP s.tail).1 = 0) : prmsP (g + 1) acc s = prmsP g (acc ++ [(prmP s.tail).2.1]) (prmP s.tail).2.2 := by
  conv => lhs; unfold prmsP
  rw [if_pos h]; simp only; rw [if_neg (fun e => e h2)]
theorem lnP_none {l : List UInt8} (h : fstOf l [59, 58] = none) : (lnP l).1 = 5 := by unfold lnP; rw [h]
theorem lnP_name {l : List UInt8} {i : Nat} (h : fstOf l [59, 58] = some i) (hn : nameB (greatL (l.take i)) = false) : (lnP l).1 = 8 := by unfold lnP; rw [h]; simp only; rw [if_pos hn]
theorem lnP_prms {l : List UInt8} {i : Nat} {V : Int × List Prm × List UInt8} (h : fstOf l [59, 58] = some i) (hn : nameB (greatL (l.take i)) = true) (hV : prmsP (l.length + 1) [] (l.drop i) = V) : (V.1 ≠ 0 → (lnP l).1 = V.1) ∧ (V.1 = 0 → cleanB V.2.2.tail = false → (lnP l).1 = 5) ∧ (V.1 = 0 → cleanB V.2.2.tail = true → lnP l = (0, ⟨bs (greatL (l.take i)), V.2.1, bs V.2.2.tail⟩)) := by
  unfold lnP
  rw [h]
  simp only
  rw [if_neg (by rw [hn]; decide), hV]
  refine ⟨fun g => by rw [if_pos g], fun g c => by rw [if_neg (fun h => h g), if_pos c], fun g c => by rw [if_neg (fun h => h g), if_neg (by rw [c]; decide)]⟩
/-- What parseLine answers. -/
def LnPost (l : List UInt8) (w : World) (e : Ending) (w' : World) : Prop :=
  ((lnP l).1 = 0 → ∃ u, e = .returned (.tuple #[.agg #[.string (lnP l).2.name, u, .string (lnP l).2.value], .nilIface]) ∧ QPrm (fun b => w.heap.size ≤ b ∧ b < w'.heap.size) w' u (lnP l).2.prms) ∧
  ((lnP l).1 ≠ 0 → ∃ nm oa n c vl, e = .returned (.tuple #[.agg #[.string nm, .slice oa n c, .string vl], .iface 26 (.int .i64 (lnP l).1)])) ∧ Below w.heap.size w w'
theorem LnPost.bad {l : List UInt8} {w w' : World} {x : Int} {nm vl : ByteArray} {oa : Option Addr} {n c : Nat} (h : (lnP l).1 = x) (hx : x ≠ 0) (hb : Below w.heap.size w w') : LnPost l w (.returned (.tuple #[.agg #[.string nm, .slice oa n c, .string vl], .iface 26 (.int .i64 x)])) w' :=
  ⟨fun h0 => absurd (h.symm.trans h0) hx, fun _ => ⟨nm, oa, n, c, vl, by rw [h]⟩, hb⟩
/-- parseLine under way. -/
def LnS (w : World) (X0 : Nat) (G : ByteArray) (val : ByteArray) (v : Value) (l : List (Prm × Value)) (x : World) : Prop :=
  Below w.heap.size w x ∧ (w.heap.size < X0 ∧ X0 < x.heap.size) ∧
  (x.cell? ⟨w.heap.size, 0, none⟩ = some (.string ⟨#[]⟩) ∧ x.frozen? ⟨w.heap.size, 0, none⟩ = false ∧ x.cell? ⟨w.heap.size, 1, none⟩ = some (.slice none 0 0) ∧ x.frozen? ⟨w.heap.size, 1, none⟩ = false ∧ x.cell? ⟨w.heap.size, 2, none⟩ = some (.string ⟨#[]⟩) ∧ x.frozen? ⟨w.heap.size, 2, none⟩ = false) ∧
  (x.cell? ⟨X0, 0, none⟩ = some (.string G) ∧ x.cell? ⟨X0, 1, none⟩ = some v ∧ x.frozen? ⟨X0, 1, none⟩ = false ∧ x.cell? ⟨X0, 2, none⟩ = some (.string val) ∧ x.frozen? ⟨X0, 2, none⟩ = false) ∧ RowQ qPrm cPrm 66 2 (X0 + 1) x v l
section
variable {w : World} {X0 : Nat} {G val : ByteArray} {v : Value} {l : List (Prm × Value)} {x x' : World}
theorem LnS.call (h : LnS w X0 G val v l x) (hb : Below x.heap.size x x') : LnS w X0 G val v l x' := by
  obtain ⟨h1, ⟨h2, h3⟩, ⟨a1, a2, a3, a4, a5, a6⟩, ⟨b1, b2, b3, b4, b5⟩, h4⟩ := h
  have hH : w.heap.size < x.heap.size := by omega
  exact ⟨thenB h1 hb, ⟨h2, Nat.lt_of_lt_of_le h3 hb.size⟩, ⟨(hb.cell (p := ⟨w.heap.size, 0, none⟩) hH).trans a1, (hb.frozen (p := ⟨w.heap.size, 0, none⟩) hH).trans a2, (hb.cell (p := ⟨w.heap.size, 1, none⟩) hH).trans a3, (hb.frozen (p := ⟨w.heap.size, 1, none⟩) hH).trans a4, (hb.cell (p := ⟨w.heap.size, 2, none⟩) hH).trans a5, (hb.frozen (p := ⟨w.heap.size, 2, none⟩) hH).trans a6⟩, ⟨(hb.cell (p := ⟨X0, 0, none⟩) h3).trans b1, (hb.cell (p := ⟨X0, 1, none⟩) h3).trans b2, (hb.frozen (p := ⟨X0, 1, none⟩) h3).trans b3, (hb.cell (p := ⟨X0, 2, none⟩) h3).trans b4, (hb.frozen (p := ⟨X0, 2, none⟩) h3).trans b5⟩, h4.call qPrm_keep hb⟩
theorem LnS.facts (h : LnS w X0 G val v l x) : (w.heap.size < x.heap.size ∧ X0 < x.heap.size) ∧
  (x.cell? ⟨w.heap.size, 0, none⟩ = some (.string ⟨#[]⟩) ∧ x.frozen? ⟨w.heap.size, 0, none⟩ = false ∧ x.cell? ⟨w.heap.size, 1, none⟩ = some (.slice none 0 0) ∧ x.frozen? ⟨w.heap.size, 1, none⟩ = false ∧ x.cell? ⟨w.heap.size, 2, none⟩ = some (.string ⟨#[]⟩) ∧ x.frozen? ⟨w.heap.size, 2, none⟩ = false) ∧
  (x.cell? ⟨X0, 0, none⟩ = some (.string G) ∧ x.cell? ⟨X0, 1, none⟩ = some v ∧ x.frozen? ⟨X0, 1, none⟩ = false ∧ x.cell? ⟨X0, 2, none⟩ = some (.string val) ∧ x.frozen? ⟨X0, 2, none⟩ = false) := ⟨⟨by have := h.2.1; omega, h.2.1.2⟩, h.2.2.1, h.2.2.2.1⟩
theorem LnS.form (h : LnS w X0 G val v l x) : ∃ oa cap, v = .slice oa l.length cap := h.2.2.2.2.form
theorem LnS.putv (h : LnS w X0 G val v l x) (val2 : ByteArray) : LnS w X0 G val2 v l (x.setCell ⟨X0, 2, none⟩ (.string val2)) := by
  obtain ⟨h1, ⟨h2, h3⟩, ⟨a1, a2, a3, a4, a5, a6⟩, ⟨b1, b2, b3, b4, b5⟩, h4⟩ := h
  have hx : ∀ k, (⟨w.heap.size, k, none⟩ : Addr) ≠ ⟨X0, 2, none⟩ := fun k e => by injection e with e; omega
  have hf : ∀ p, (x.setCell ⟨X0, 2, none⟩ (.string val2)).frozen? p = x.frozen? p := fun p => by simp
  have hc : ∀ k, (x.setCell ⟨X0, 2, none⟩ (.string val2)).cell? ⟨w.heap.size, k, none⟩ = x.cell? ⟨w.heap.size, k, none⟩ := fun k => World.cell?_setCell_other _ _ _ _ (by intro e; injection e with e; omega)
  refine ⟨h1.setCell (p := ⟨X0, 2, none⟩) (Nat.le_of_lt h2) _, ⟨h2, by simpa [World.setCell] using h3⟩, ⟨(hc 0).trans a1, (hf _).trans a2, (hc 1).trans a3, (hf _).trans a4, (hc 2).trans a5, (hf _).trans a6⟩, ⟨?_, ?_, (hf _).trans b3, World.cell?_setCell_same _ _ _ b4, (hf _).trans b5⟩, h4.far qPrm_keep (p := ⟨X0, 2, none⟩) (Nat.lt_succ_self _) _⟩
  · rw [World.cell?_setCell_other _ _ _ _ (by simp)]; exact b1
  · rw [World.cell?_setCell_other _ _ _ _ (by simp)]; exact b2
/-- The result's block, filled. -/
theorem LnS.fin (h : LnS w X0 G val v l x) {y : World} (hy : y = ((x.setCell ⟨w.heap.size, 0, none⟩ (.string G)).setCell ⟨w.heap.size, 1, none⟩ v).setCell ⟨w.heap.size, 2, none⟩ (.string val)) :
    y.cell? ⟨w.heap.size, 0, none⟩ = some (.string G) ∧ y.cell? ⟨w.heap.size, 1, none⟩ = some v ∧ y.cell? ⟨w.heap.size, 2, none⟩ = some (.string val) ∧ Below w.heap.size w y ∧ QPrm (fun b => w.heap.size ≤ b ∧ b < y.heap.size) y v (l.map Prod.fst) := by
  subst hy
  obtain ⟨h1, ⟨h2, h3⟩, ⟨a1, a2, a3, a4, a5, a6⟩, ⟨b1, b2, b3, b4, b5⟩, h4⟩ := h
  have c0 : (x.setCell ⟨w.heap.size, 0, none⟩ (.string G)).cell? ⟨w.heap.size, 0, none⟩ = some (.string G) := World.cell?_setCell_same _ _ _ a1
  have c1 : (x.setCell ⟨w.heap.size, 0, none⟩ (.string G)).cell? ⟨w.heap.size, 1, none⟩ = some (.slice none 0 0) := by rw [World.cell?_setCell_other _ _ _ _ (by simp)]; exact a3
  have c2 : ((x.setCell ⟨w.heap.size, 0, none⟩ (.string G)).setCell ⟨w.heap.size, 1, none⟩ v).cell? ⟨w.heap.size, 2, none⟩ = some (.string ⟨#[]⟩) := by rw [World.cell?_setCell_other _ _ _ _ (by simp), World.cell?_setCell_other _ _ _ _ (by simp)]; exact a5
  refine ⟨?_, ?_, World.cell?_setCell_same _ _ _ c2, ((h1.setCell (p := ⟨w.heap.size, 0, none⟩) (Nat.le_refl _) _).setCell (p := ⟨w.heap.size, 1, none⟩) (Nat.le_refl _) _).setCell (p := ⟨w.heap.size, 2, none⟩) (Nat.le_refl _) _, ?_⟩
  · rw [World.cell?_setCell_other _ _ _ _ (by simp), World.cell?_setCell_other _ _ _ _ (by simp)]; exact c0
  · rw [World.cell?_setCell_other _ _ _ _ (by simp)]; exact World.cell?_setCell_same _ _ _ c1
  · have h5 := ((h4.far qPrm_keep (p := ⟨w.heap.size, 0, none⟩) (by show w.heap.size < _; omega) (.string G)).far qPrm_keep (p := ⟨w.heap.size, 1, none⟩) (by show w.heap.size < _; omega) v).far qPrm_keep (p := ⟨w.heap.size, 2, none⟩) (by show w.heap.size < _; omega) (.string val)
    exact h5.prm fun b g1 g2 => ⟨by omega, g2⟩
/-- One param more. -/
theorem LnS.more {x2 x3 : World} {a : Prm × Value} {g cap : Nat} (h : LnS w X0 G val v l x) (h2 : Below x.heap.size x x2) (hown : World.ownsRow x3 (X0 + 1) 66 2 (.slice (some ⟨g, 0, none⟩) (l.length + 1) cap) (l.length + 1) (l.flatMap cPrm ++ cPrm a)) (hg : x2.grownBy x3 v.ownBlock) (hat : v.ownBlock = some g ∨ g = x2.heap.size) (ha : qPrm (fun b => X0 + 1 ≤ b ∧ b < x2.heap.size ∧ v.ownBlock ≠ some b) x2 a) : (X0 < x3.heap.size ∧ x3.cell? ⟨X0, 1, none⟩ = some v ∧ x3.frozen? ⟨X0, 1, none⟩ = false) ∧ LnS w X0 G val (.slice (some ⟨g, 0, none⟩) (l.length + 1) cap) (l ++ [a]) (x3.setCell ⟨X0, 1, none⟩ (.slice (some ⟨g, 0, none⟩) (l.length + 1) cap)) := by
  obtain ⟨h1, ⟨k2, k3⟩, ⟨a1, a2, a3, a4, a5, a6⟩, ⟨b1, b2, b3, b4, b5⟩, h4⟩ := h.call h2
  have hlt := fun k hk => World.ownsRow.lt h4.1 k hk
  have kb : ∀ k, k < X0 + 1 → x3.heap[k]? = x2.heap[k]? := fun k hk => hg.block k (by omega) (fun e => by have := (hlt k e.symm).1; omega)
  have kc : ∀ (p : Addr), p.block < X0 + 1 → x3.cell? p = x2.cell? p := fun p hp => World.cell?_of_block (kb _ hp)
  have kf : ∀ (p : Addr), p.block < X0 + 1 → x3.frozen? p = x2.frozen? p := fun p hp => by unfold World.frozen?; rw [kb _ hp]
  have h6 : Below w.heap.size w x3 := h1.grown hg (Nat.le_of_lt (by omega)) (fun k hk => by have := (hlt k hk).1; omega)
  have hr := h4.more qPrm_keep hown hg hat ha
  have hsz := hg.size
  have hX : (⟨X0, 1, none⟩ : Addr).block < X0 + 1 := Nat.lt_succ_self _
  refine ⟨⟨by omega, (kc _ hX).trans b2, (kf _ hX).trans b3⟩, h6.setCell (p := ⟨X0, 1, none⟩) (Nat.le_of_lt k2) _, ⟨k2, by simp [World.setCell]; omega⟩, ⟨?_, ?_, ?_, ?_, ?_, ?_⟩, ⟨?_, World.cell?_setCell_same _ _ _ ((kc _ hX).trans b2), ?_, ?_, ?_⟩, hr.far qPrm_keep hX _⟩
  · rw [World.cell?_setCell_other _ _ _ _ (by intro e; injection e with e; omega)]; exact (kc ⟨w.heap.size, 0, none⟩ (by show w.heap.size < _; omega)).trans a1
  · rw [World.frozen?_setCell]; exact (kf ⟨w.heap.size, 0, none⟩ (by show w.heap.size < _; omega)).trans a2
  · rw [World.cell?_setCell_other _ _ _ _ (by intro e; injection e with e; omega)]; exact (kc ⟨w.heap.size, 1, none⟩ (by show w.heap.size < _; omega)).trans a3
  · rw [World.frozen?_setCell]; exact (kf ⟨w.heap.size, 1, none⟩ (by show w.heap.size < _; omega)).trans a4
  · rw [World.cell?_setCell_other _ _ _ _ (by intro e; injection e with e; omega)]; exact (kc ⟨w.heap.size, 2, none⟩ (by show w.heap.size < _; omega)).trans a5
  · rw [World.frozen?_setCell]; exact (kf ⟨w.heap.size, 2, none⟩ (by show w.heap.size < _; omega)).trans a6
  · rw [World.cell?_setCell_other _ _ _ _ (by simp)]; exact (kc ⟨X0, 0, none⟩ (Nat.lt_succ_self _)).trans b1
  · rw [World.frozen?_setCell]; exact (kf ⟨X0, 1, none⟩ (Nat.lt_succ_self _)).trans b3
  · rw [World.cell?_setCell_other _ _ _ _ (by simp)]; exact (kc ⟨X0, 2, none⟩ (Nat.lt_succ_self _)).trans b4
  · rw [World.frozen?_setCell]; exact (kf ⟨X0, 2, none⟩ (Nat.lt_succ_self _)).trans b5
theorem LnS.drewN (h : LnS w X0 G val v l x) (n : Nat) : LnS w X0 G val v l (x.drewN n) := h.call (below_drewN (Below.refl _ _) n)
/-- What a call made stays apart from the row. -/
theorem LnS.apart (h : LnS w X0 G val v l x) {x2 : World} {u : Value} {L : List ByteArray} (hq : QStr (fun b => x.heap.size ≤ b ∧ b < x'.heap.size) x' u L) (h2 : Below x'.heap.size x' x2) : QStr (fun b => X0 + 1 ≤ b ∧ b < x2.heap.size ∧ v.ownBlock ≠ some b) x2 u L :=
  hq.keep fun b hb => ⟨⟨by have := h.2.1.2; omega, Nat.lt_of_lt_of_le hb.2 h2.size, fun e => by have := (World.ownsRow.lt h.2.2.2.2.1 b e).2; omega⟩, h2.block b hb.2⟩
end
theorem ln_start {w w1 : World} (G : ByteArray) (hb : Below (w.alloc (.cells #[.string ⟨#[]⟩, .slice none 0 0, .string ⟨#[]⟩] 64)).heap.size (w.alloc (.cells #[.string ⟨#[]⟩, .slice none 0 0, .string ⟨#[]⟩] 64)) w1) : LnS w w1.heap.size G ⟨#[]⟩ (.slice none 0 0) [] (w1.alloc (.cells #[.string G, .slice none 0 0, .string ⟨#[]⟩] 64)) := by
  have h1 : Below w.heap.size w w1 := ((Below.refl _ _).alloc (Nat.le_refl _) _).trans (hb.mono (by simp))
  have h2 : w.heap.size < w1.heap.size := Nat.lt_of_lt_of_le (by simp) hb.size
  have h3 : Below w1.heap.size w1 (w1.alloc (.cells #[.string G, .slice none 0 0, .string ⟨#[]⟩] 64)) := (Below.refl _ _).alloc (Nat.le_refl _) _
  refine ⟨thenB h1 h3, ⟨h2, by simp⟩, ⟨?_, ?_, ?_, ?_, ?_, ?_⟩, ⟨by simp, by simp, by simp, by simp, by simp⟩, RowQ.nil⟩
  · exact (h3.cell (p := ⟨w.heap.size, 0, none⟩) h2).trans ((hb.cell (p := ⟨w.heap.size, 0, none⟩) (by simp)).trans (by simp))
  · exact (h3.frozen (p := ⟨w.heap.size, 0, none⟩) h2).trans ((hb.frozen (p := ⟨w.heap.size, 0, none⟩) (by simp)).trans (by simp))
  · exact (h3.cell (p := ⟨w.heap.size, 1, none⟩) h2).trans ((hb.cell (p := ⟨w.heap.size, 1, none⟩) (by simp)).trans (by simp))
  · exact (h3.frozen (p := ⟨w.heap.size, 1, none⟩) h2).trans ((hb.frozen (p := ⟨w.heap.size, 1, none⟩) (by simp)).trans (by simp))
  · exact (h3.cell (p := ⟨w.heap.size, 2, none⟩) h2).trans ((hb.cell (p := ⟨w.heap.size, 2, none⟩) (by simp)).trans (by simp))
  · exact (h3.frozen (p := ⟨w.heap.size, 2, none⟩) h2).trans ((hb.frozen (p := ⟨w.heap.size, 2, none⟩) (by simp)).trans (by simp))
theorem ln_zero {w w1 : World} (hb : Below (w.alloc (.cells #[.string ⟨#[]⟩, .slice none 0 0, .string ⟨#[]⟩] 64)).heap.size (w.alloc (.cells #[.string ⟨#[]⟩, .slice none 0 0, .string ⟨#[]⟩] 64)) w1) : Below w.heap.size w w1 ∧ w.heap.size < w1.heap.size ∧ w1.cell? ⟨w.heap.size, 0, none⟩ = some (.string ⟨#[]⟩) ∧ w1.frozen? ⟨w.heap.size, 0, none⟩ = false ∧ w1.cell? ⟨w.heap.size, 1, none⟩ = some (.slice none 0 0) ∧ w1.frozen? ⟨w.heap.size, 1, none⟩ = false ∧ w1.cell? ⟨w.heap.size, 2, none⟩ = some (.string ⟨#[]⟩) ∧ w1.frozen? ⟨w.heap.size, 2, none⟩ = false :=
  ⟨((Below.refl _ _).alloc (Nat.le_refl _) _).trans (hb.mono (by simp)), Nat.lt_of_lt_of_le (by simp) hb.size, (hb.cell (p := ⟨w.heap.size, 0, none⟩) (by simp)).trans (by simp), (hb.frozen (p := ⟨w.heap.size, 0, none⟩) (by simp)).trans (by simp), (hb.cell (p := ⟨w.heap.size, 1, none⟩) (by simp)).trans (by simp), (hb.frozen (p := ⟨w.heap.size, 1, none⟩) (by simp)).trans (by simp), (hb.cell (p := ⟨w.heap.size, 2, none⟩) (by simp)).trans (by simp), (hb.frozen (p := ⟨w.heap.size, 2, none⟩) (by simp)).trans (by simp)⟩
/-- The result's block, filled with nothing. -/
def LnS2 (w x : World) : Prop := Below w.heap.size w x ∧ x.cell? ⟨w.heap.size, 0, none⟩ = some (.string ⟨#[]⟩) ∧ x.cell? ⟨w.heap.size, 1, none⟩ = some (.slice none 0 0) ∧ x.cell? ⟨w.heap.size, 2, none⟩ = some (.string ⟨#[]⟩)
theorem LnS2.fin {w x : World} (h : LnS2 w x) : (((x.setCell ⟨w.heap.size, 0, none⟩ (.string ⟨#[]⟩)).setCell ⟨w.heap.size, 1, none⟩ (.slice none 0 0)).setCell ⟨w.heap.size, 2, none⟩ (.string ⟨#[]⟩)).cell? ⟨w.heap.size, 0, none⟩ = some (.string ⟨#[]⟩) ∧ (((x.setCell ⟨w.heap.size, 0, none⟩ (.string ⟨#[]⟩)).setCell ⟨w.heap.size, 1, none⟩ (.slice none 0 0)).setCell ⟨w.heap.size, 2, none⟩ (.string ⟨#[]⟩)).cell? ⟨w.heap.size, 1, none⟩ = some (.slice none 0 0) ∧ (((x.setCell ⟨w.heap.size, 0, none⟩ (.string ⟨#[]⟩)).setCell ⟨w.heap.size, 1, none⟩ (.slice none 0 0)).setCell ⟨w.heap.size, 2, none⟩ (.string ⟨#[]⟩)).cell? ⟨w.heap.size, 2, none⟩ = some (.string ⟨#[]⟩) ∧ Below w.heap.size w (((x.setCell ⟨w.heap.size, 0, none⟩ (.string ⟨#[]⟩)).setCell ⟨w.heap.size, 1, none⟩ (.slice none 0 0)).setCell ⟨w.heap.size, 2, none⟩ (.string ⟨#[]⟩)) := by
  obtain ⟨h1, a1, a3, a5⟩ := h
  refine ⟨?_, ?_, ?_, ((h1.setCell (p := ⟨w.heap.size, 0, none⟩) (Nat.le_refl _) _).setCell (p := ⟨w.heap.size, 1, none⟩) (Nat.le_refl _) _).setCell (p := ⟨w.heap.size, 2, none⟩) (Nat.le_refl _) _⟩
  · rw [World.cell?_setCell_other _ _ _ _ (by simp), World.cell?_setCell_other _ _ _ _ (by simp)]; exact World.cell?_setCell_same _ _ _ a1
  · rw [World.cell?_setCell_other _ _ _ _ (by simp)]; exact World.cell?_setCell_same _ _ (.slice none 0 0) (by rw [World.cell?_setCell_other _ _ _ _ (by simp)]; exact a3)
  · exact World.cell?_setCell_same _ _ (.string ⟨#[]⟩) (by rw [World.cell?_setCell_other _ _ _ _ (by simp), World.cell?_setCell_other _ _ _ _ (by simp)]; exact a5)
theorem info_parts3 {t : TypeId} {z : Value} {n b : Nat} (h : (Tryd.prog.info? t).map (fun i => (i.zero, i.size, i.bytes)) = some (some z, n, b)) : ∃ i, Tryd.prog.info? t = some i ∧ i.zero = some z ∧ i.size = n ∧ i.bytes = b := by
  cases hi : Tryd.prog.info? t with
  | none => rw [hi] at h; cases h
  | some i => rw [hi] at h; simp at h; exact ⟨i, rfl, h.1, h.2.1, h.2.2⟩
theorem prm_info : (Tryd.prog.info? 66).map (fun i => (i.zero, i.size, i.bytes)) = some (some (.agg #[.string ⟨#[]⟩, .slice none 0 0]), 2, 40) := by kernel_rfl
theorem two_ascii : ∀ b, b ∈ (⟨#[59, 58]⟩ : ByteArray).data.toList → b.toNat < 128 := by decide
set_option maxRecDepth 100000 in
set_option maxHeartbeats 16000000 in
theorem parse_any (s : ByteArray) (w : World) (hs : s.size ≤ 1048576) :
    Calls Tryd.prog 62 #[.string s] w (LnPost s.data.toList w) := by
  have hI := fun w0 => ia_fst s ⟨#[59, 58]⟩ w0 (by decide) (by decide) (by omega) two_ascii
  cases h61 : fstOf s.data.toList [59, 58] with
  | none =>
    rw [show (⟨#[59, 58]⟩ : ByteArray).data.toList = [59, 58] from rfl, h61] at hI
    have CI : Hid (∀ w0, Calls Tryd.prog 77 #[.string s, .string ⟨#[59, 58]⟩] w0 fun e w' => e = .returned (.int .i64 (-1)) ∧ Below w0.heap.size w0 w') := Lib.hid hI
    have HE := Lib.hid (lnP_none h61)
    clear hI h61
    go_enter Tryd.func62, Tryd.ntmps62
    go_wp2_with (go_at_call 77; refine (CI.out _).mono ?_; rintro e w1 ⟨rfl, hb⟩; have HB := Lib.hid (ln_zero hb).1; have hz := (ln_zero hb).2; obtain ⟨f0, a1, a2, a3, a4, a5, a6⟩ := hz; clear hb)
    have hq : LnS2 w w1 := ⟨HB.out, a1, a3, a5⟩
    obtain ⟨hq1, hq2, hq3, hq4⟩ := hq.fin
    exact bodyPost_ret (v := .tuple #[.agg #[.string ⟨#[]⟩, .slice none 0 0, .string ⟨#[]⟩], .iface 26 (.int .i64 5)]) (by simp [results, Tryd.results62, go_sem, hq1, hq2, hq3]) rfl (LnPost.bad HE.out (by decide) hq4)
  | some i =>
    rw [show (⟨#[59, 58]⟩ : ByteArray).data.toList = [59, 58] from rfl, h61] at hI
    have hil : i < s.size := by have := fstOf_lt h61; rwa [len_eq] at this
    have CI : Hid (∀ w0, Calls Tryd.prog 77 #[.string s, .string ⟨#[59, 58]⟩] w0 fun e w' => e = .returned (.int .i64 (i : Int)) ∧ Below w0.heap.size w0 w') := Lib.hid hI
    obtain ⟨G, hG⟩ : ∃ G, bs (greatL (s.data.toList.take i)) = G := ⟨_, rfl⟩
    have CG : Hid (∀ w0, Calls Tryd.prog 63 #[.string (s.extract 0 i)] w0 fun e w' => e = .returned (.string G) ∧ Below w0.heap.size w0 w') := Lib.hid fun w0 => by
      have h := great_any (s.extract 0 i) w0 (by rw [ByteArray.size_extract]; omega)
      rw [ext_to, hG] at h
      exact h
    have hGl : G.data.toList = greatL (s.data.toList.take i) := by rw [← hG]; rfl
    have hGs : G.size ≤ 1048576 := by rw [← len_eq, hGl, greatL_len, List.length_take, len_eq]; omega
    have CN : Hid (∀ w0, Calls Tryd.prog 57 #[.string G] w0 fun e w' => e = .returned (.bool (nameB G.data.toList)) ∧ Below w0.heap.size w0 w') := Lib.hid fun w0 => name_any G w0 (by omega)
    have k0 : (0 : Int) ≤ (i : Int) := by omega
    have k1 : (i : Int) ≤ (s.size : Int) := by omega
    have k2 : ¬ (i : Int) < 0 := by omega
    clear hI hG
    cases hN : nameB G.data.toList with
    | false =>
      rw [hN] at CN
      have HE := Lib.hid (lnP_name h61 (by rw [← hGl]; exact hN))
      clear hN h61 hGl
      go_enter Tryd.func62, Tryd.ntmps62
      go_wp2_with (first
        | (go_at_call 77; refine (CI.out _).mono ?_; rintro e w1 ⟨rfl, hb⟩; have HZ := Lib.hid hb; have hz := (ln_zero hb).2; obtain ⟨f0, a1, a2, a3, a4, a5, a6⟩ := hz; clear hb)
        | (go_at_call 63; refine (CG.out _).mono ?_; rintro e w2 ⟨rfl, hb⟩; have HP1 := Lib.hid (ln_start G (thenB HZ.out hb)); clear hb HZ f0 a1 a2 a3 a4 a5 a6)
        | (go_at_call 57; refine (CN.out _).mono ?_; rintro e w3 ⟨rfl, hb⟩; have HP2 := Lib.hid (HP1.out.call hb); clear hb; obtain ⟨⟨f0, f1⟩, ⟨a1, a2, a3, a4, a5, a6⟩, b1, b2, b3, b4, b5⟩ := HP2.out.facts))
      have HQ := Lib.hid HP2.out
      have hq1 := (HQ.out.fin rfl).1
      have hq2 := (HQ.out.fin rfl).2.1
      have hq3 := (HQ.out.fin rfl).2.2.1
      exact bodyPost_ret (v := .tuple #[.agg #[.string G, .slice none 0 0, .string ⟨#[]⟩], .iface 26 (.int .i64 8)]) (by simp [results, Tryd.results62, go_sem, hq1, hq2, hq3]) rfl (LnPost.bad HE.out (by decide) (HQ.out.fin rfl).2.2.2.1)
    | true =>
      rw [hN] at CN
      obtain ⟨V, hV⟩ : ∃ V, prmsP (s.data.toList.length + 1) [] (s.data.toList.drop i) = V := ⟨_, rfl⟩
      have hpv := lnP_prms h61 (by rw [← hGl]; exact hN) hV
      rw [← hGl, bs_of] at hpv
      have HPV := Lib.hid hpv
      have HV0 : Hid (V = prmsP (s.size + 1) [] (s.extract i s.size).data.toList) := Lib.hid (by rw [ext_tail, ← hV, len_eq])
      clear hN h61 hGl hpv hV
      go_enter Tryd.func62, Tryd.ntmps62
      go_wp2_with (first
        | (go_at_call 77; refine (CI.out _).mono ?_; rintro e w1 ⟨rfl, hb⟩; have HZ := Lib.hid hb; have hz := (ln_zero hb).2; obtain ⟨f0, a1, a2, a3, a4, a5, a6⟩ := hz; clear hb)
        | (go_at_call 63; refine (CG.out _).mono ?_; rintro e w2 ⟨rfl, hb⟩; have HP1 := Lib.hid (ln_start G (thenB HZ.out hb)); clear hb HZ f0 a1 a2 a3 a4 a5 a6)
        | (go_at_call 57; refine (CN.out _).mono ?_; rintro e w3 ⟨rfl, hb⟩; have HP2 := Lib.hid (HP1.out.call hb); clear hb))
      obtain ⟨X0, hX0⟩ : ∃ X, w2.heap.size = X := ⟨_, rfl⟩
      rw [hX0] at HP2 ⊢
      clear HP1 hX0
      obtain ⟨i0, hi0, hz0, hz1, hz2⟩ := info_parts3 prm_info
      go_loopw [0] (fun a wr => ∃ (R : ByteArray) (l : List (Prm × Value)) (v : Value) (g : Nat), a = .string R ∧ 0 < R.size ∧ l.length + R.size ≤ s.size ∧ R.size ≤ g ∧ Hid (LnS w X0 G ⟨#[]⟩ v l wr) ∧ Hid (V = prmsP (g + 1) (l.map Prod.fst) R.data.toList)) (fun a _ => match a with | .string r => r.size | _ => 0)
      case atStart => exact ⟨_, [], .slice none 0 0, s.size, rfl, by rw [ByteArray.size_extract]; omega, by rw [ByteArray.size_extract]; simp, by rw [ByteArray.size_extract]; omega, HP2, HV0⟩
      case round =>
        clear HP2 HV0
        obtain ⟨R, l, v, g, rfl, hR0, hacc, hRg, HP, HST⟩ := hrel
        obtain ⟨wA, rfl⟩ : ∃ wo : World, wo = wr := ⟨_, rfl⟩
        have z0 : (0 : Int) < (R.size : Int) := by omega
        have z1 : (1 : Int) ≤ (R.size : Int) := by omega
        obtain ⟨T, hT⟩ : ∃ T, R.extract 1 R.size = T := ⟨_, rfl⟩
        have hTl : T.data.toList = R.data.toList.tail := by rw [← hT, tail_list]
        have hTs : T.size + 1 ≤ R.size ∧ R.size ≤ T.size + 1 := by (have h : T.size = R.size - 1 := by rw [← len_eq, hTl, List.length_tail, len_eq]); omega
        obtain ⟨oa, cap, rfl⟩ := HP.out.form
        obtain ⟨⟨f0, f1⟩, ⟨a1, a2, a3, a4, a5, a6⟩, b1, b2, b3, b4, b5⟩ := HP.out.facts
        obtain ⟨g', rfl⟩ : ∃ g', g = g' + 1 := ⟨g - 1, by omega⟩
        by_cases h59 : R[0] = 59
        · have c1 := byte_lit (s := R) (i := 0) (h := hR0) h59 59 rfl
          have hhd : R.data.toList.head? = some 59 := (head_eq hR0 59).2 h59
          have hCP := fun w0 => param_any T w0 (by omega)
          clear h59
          by_cases hp0 : (prmP T.data.toList).1 = 0
          · obtain ⟨pn, hpn⟩ : ∃ p, (prmP T.data.toList).2.1 = p := ⟨_, rfl⟩
            obtain ⟨Rr, hRr⟩ : ∃ r, bs (prmP T.data.toList).2.2 = r := ⟨_, rfl⟩
            have hRl : Rr.data.toList = (prmP T.data.toList).2.2 := by rw [← hRr, bs_list]
            have hpo := prmP_ok hp0
            have hRp : 0 < Rr.size := by rw [← len_eq, hRl]; exact List.length_pos_iff.2 hpo.1
            have hRz : Rr.size ≤ T.size := by rw [← len_eq, hRl, ← len_eq T]; exact hpo.2.1
            have CP : Hid (∀ w0, Calls Tryd.prog 78 #[.string T] w0 fun e w' => (∃ u, e = .returned (.tuple #[.agg #[.string pn.name, u], .string Rr, .nilIface]) ∧ QStr (fun b => w0.heap.size ≤ b ∧ b < w'.heap.size) w' u pn.vals) ∧ Below w0.heap.size w0 w') := Lib.hid fun w0 => (hCP w0).mono fun e w' h => by
              have h1 := h.1 hp0
              rw [hpn, hRr] at h1
              exact ⟨h1, h.2.2⟩
            have HNX : Hid (V = prmsP (g' + 1) ((l.map Prod.fst) ++ [pn]) Rr.data.toList) := Lib.hid (by rw [HST.out, prmsP_go hhd (by rw [← hTl]; exact hp0), ← hTl, hpn, ← hRl])
            clear hCP hp0 hpn hRr hRl hpo HST hTl hhd
            go_wp2_with (first
              | (go_at_call 78; refine (CP.out _).mono ?_; rintro e w3 ⟨⟨u, rfl, hqs⟩, hb⟩; have HQS := Lib.hid hqs; have HB3 := Lib.hid hb; have HP3 := Lib.hid (HP.out.call hb); obtain ⟨ua, un, uc, rfl⟩ := hqs.form; clear hqs hb f0 f1 a1 a2 a3 a4 a5 a6 b1 b2 b3 b4 b5; obtain ⟨⟨f0, f1⟩, ⟨a1, a2, a3, a4, a5, a6⟩, b1, b2, b3, b4, b5⟩ := HP3.out.facts)
              | (at_builtin; refine wpList_append_lies _ rfl (.tmp 44) (.tmp 46) 62 rfl (X0 + 1) 66 i0 (.agg #[.string ⟨#[]⟩, .slice none 0 0]) 2 40 Tryd.underlying62 hi0 hz0 hz1 hz2 rfl (by decide) _ l.length (l.flatMap cPrm) rfl ((HP3.out.2.2.2.2.1.alloc _).alloc _) _ 1 1 [.string pn.name, .slice ua un uc] rfl rfl (cells_at (by simp) _ _) (by simp [Value.oneCell']) (by decide) (by unfold maxLen; omega) (by omega) (by have := HP3.out.2.1.2; simp; omega) _ rfl ?_; intro g5 c5 w5 hown hgrow hat _; have hm5 := HP3.out.more (a := (pn, .slice ua un uc)) (((Below.refl _ _).alloc (Nat.le_refl _) _).alloc (by simp) _) hown hgrow hat (HP.out.apart HQS.out (((Below.refl _ _).alloc (Nat.le_refl _) _).alloc (by simp) _)); obtain ⟨⟨y5, y6, y7⟩, hl5⟩ := hm5; have HM5 := Lib.hid hl5; clear hl5 hown hgrow hat))
            go_roundw
            case rel => exact ⟨Rr, l ++ [(pn, .slice ua un uc)], _, g', rfl, hRp, by rw [List.length_append, List.length_singleton]; omega, by omega, HM5, Lib.hid (by rw [List.map_append]; exact HNX.out)⟩
            case measure => simp only; omega
          · obtain ⟨E, hE⟩ : ∃ E, (prmP T.data.toList).1 = E := ⟨_, rfl⟩
            rw [hE] at hp0
            have CP : Hid (∀ w0, Calls Tryd.prog 78 #[.string T] w0 fun e w' => (∃ nm oa n c, e = .returned (.tuple #[.agg #[.string nm, .slice oa n c], .string ⟨#[]⟩, .iface 26 (.int .i64 E)])) ∧ Below w0.heap.size w0 w') := Lib.hid fun w0 => (hCP w0).mono fun e w' h => by
              have h1 := h.2.1 (by rw [hE]; exact hp0)
              rw [hE, errV_ne hp0] at h1
              exact ⟨h1, h.2.2⟩
            have HE : Hid ((lnP s.data.toList).1 = E) := Lib.hid (by
              have h1 : V.1 = E := by rw [HST.out, prmsP_bad hhd (by rw [← hTl, hE]; exact hp0), ← hTl, hE]
              rw [HPV.out.1 (by rw [h1]; exact hp0), h1])
            have HE0 := Lib.hid hp0
            clear hCP hp0 hE HST hTl hhd HPV
            go_wp2_with (go_at_call 78; refine (CP.out _).mono ?_; rintro e w3 ⟨⟨un, ua, uc, ud, rfl⟩, hb⟩; have HP3 := Lib.hid (HP.out.call hb); clear hb f0 f1 a1 a2 a3 a4 a5 a6 b1 b2 b3 b4 b5; obtain ⟨⟨f0, f1⟩, ⟨a1, a2, a3, a4, a5, a6⟩, b1, b2, b3, b4, b5⟩ := HP3.out.facts)
            have HQ := Lib.hid (HP3.out.fin rfl)
            have hbA := fun o => (Below.refl (((w3.setCell ⟨w.heap.size, 0, none⟩ (.string G)).setCell ⟨w.heap.size, 1, none⟩ (.slice oa l.length cap)).setCell ⟨w.heap.size, 2, none⟩ (.string ⟨#[]⟩)).heap.size (((w3.setCell ⟨w.heap.size, 0, none⟩ (.string G)).setCell ⟨w.heap.size, 1, none⟩ (.slice oa l.length cap)).setCell ⟨w.heap.size, 2, none⟩ (.string ⟨#[]⟩))).alloc (Nat.le_refl _) o
            have hsz : w.heap.size < (((w3.setCell ⟨w.heap.size, 0, none⟩ (.string G)).setCell ⟨w.heap.size, 1, none⟩ (.slice oa l.length cap)).setCell ⟨w.heap.size, 2, none⟩ (.string ⟨#[]⟩)).heap.size := by simpa [World.setCell] using f0
            have hq1 := fun o => ((hbA o).cell (p := ⟨w.heap.size, 0, none⟩) hsz).trans HQ.out.1
            have hq2 := fun o => ((hbA o).cell (p := ⟨w.heap.size, 1, none⟩) hsz).trans HQ.out.2.1
            have hq3 := fun o => ((hbA o).cell (p := ⟨w.heap.size, 2, none⟩) hsz).trans HQ.out.2.2.1
            exact bodyPost_ret (v := .tuple #[.agg #[.string G, .slice oa l.length cap, .string ⟨#[]⟩], .iface 26 (.int .i64 E)]) (by simp [results, Tryd.results62, go_sem, hq1, hq2, hq3]) rfl (LnPost.bad HE.out HE0.out (thenB HQ.out.2.2.2.1 (hbA _)))
        · have c1 := byte_not (s := R) (i := 0) (h := hR0) h59 59 rfl
          have hV1 : V = (0, l.map Prod.fst, R.data.toList) := by rw [HST.out]; exact prmsP_end (fun h => h59 ((head_eq hR0 59).1 h))
          have hpv := HPV.out.2
          rw [hV1] at hpv
          replace hpv := And.intro (hpv.1 rfl) (hpv.2 rfl)
          simp only [← hTl] at hpv
          have CC : Hid (∀ w0, Calls Tryd.prog 74 #[.string T, .string ⟨#[]⟩] w0 fun e w' => e = .returned (.bool (cleanB T.data.toList)) ∧ w0 = w') := Lib.hid fun w0 => by
            have := clean_any T ⟨#[]⟩ w0 (by omega)
            rw [show (⟨#[]⟩ : ByteArray).data.toList = [] from rfl, all_okN] at this
            exact this
          clear hV1 HST HPV h59 hTl
          have HPt := Lib.hid (HP.out.putv T)
          have x1 : ¬ X0 = w.heap.size := by have := HP.out.2.1.1; omega
          have x2 : ¬ w.heap.size = X0 := by omega
          cases hc : cleanB T.data.toList with
          | false =>
            rw [hc] at CC
            have HE := Lib.hid (hpv.1 hc)
            clear hpv hc
            go_wp2_with (go_at_call 74; refine (CC.out _).mono ?_; rintro e w4 ⟨rfl, rfl⟩)
            have hq1 := (HPt.out.fin rfl).1
            have hq2 := (HPt.out.fin rfl).2.1
            have hq3 := (HPt.out.fin rfl).2.2.1
            exact bodyPost_ret (v := .tuple #[.agg #[.string G, .slice oa l.length cap, .string T], .iface 26 (.int .i64 5)]) (by simp [results, Tryd.results62, go_sem, hq1, hq2, hq3]) rfl (LnPost.bad HE.out (by decide) (HPt.out.fin rfl).2.2.2.1)
          | true =>
            rw [hc] at CC
            have HO := Lib.hid (hpv.2 hc)
            clear hpv hc
            go_wp2_with (go_at_call 74; refine (CC.out _).mono ?_; rintro e w4 ⟨rfl, rfl⟩)
            have hq1 := (HPt.out.fin rfl).1
            have hq2 := (HPt.out.fin rfl).2.1
            have hq3 := (HPt.out.fin rfl).2.2.1
            exact bodyPost_ret (v := .tuple #[.agg #[.string G, .slice oa l.length cap, .string T], .nilIface]) (by simp [results, Tryd.results62, go_sem, hq1, hq2, hq3]) rfl ⟨fun _ => ⟨_, by rw [HO.out, bs_of], by rw [HO.out]; exact (HPt.out.fin rfl).2.2.2.2⟩, fun h => absurd (by rw [HO.out]) h, (HPt.out.fin rfl).2.2.2.1⟩
end Go.Proofs.YtidgahnamdhflaaDoor
