/- The document's ParsePeriod. Printed by a program of mine. -/
import Derived.Test.YtkfpnlenmdlmjaaGreatDoorZPerF
namespace Go.Proofs.YtkfpnlenmdlmjaaGreatDoor
open Go.RowKit Go.Shelf Scm
theorem longer_A (w : World) : Calls Tryz.prog 65 #[.int .i64 0] w fun e w' => e = .returned (.int .i64 4) ∧ w' = w := by
  go_enter Tryz.func65, Tryz.ntmps65
  go_wp2_with fail
  go_ret
  exact ⟨rfl, rfl⟩
theorem longer_B (w : World) : Calls Tryz.prog 65 #[.int .i64 4] w fun e w' => e = .returned (.int .i64 3) ∧ w' = w := by
  go_enter Tryz.func65, Tryz.ntmps65
  go_wp2_with fail
  go_ret
  exact ⟨rfl, rfl⟩
theorem fine_any (w : World) : Calls Tryz.prog 29 #[] w fun e w' => e = .returned (.agg #[.int .i64 0, .int .i64 (-1)]) ∧ Below w.heap.size w w' := by
  go_enter Tryz.func29, Tryz.ntmps29
  go_wp2_with fail
  exact bodyPost_ret (v := .agg #[.int .i64 0, .int .i64 (-1)]) (by simp [results, Tryz.results29, go_sem]) rfl ⟨rfl, (Below.refl _ _).alloc (Nat.le_refl _) _⟩
/-- Seven numbers in a box. -/
def Row7 (B : Nat) (g : Nat → Int) (w : World) : Prop := B < w.heap.size ∧ ∀ i, i < 7 → w.cell? ⟨B, i, none⟩ = some (.int .i64 (g i)) ∧ w.frozen? ⟨B, i, none⟩ = false
theorem Row7.kept {B : Nat} {g : Nat → Int} {w w' : World} (h : Row7 B g w) (hz : w.heap.size ≤ w'.heap.size) (hc : ∀ i, w'.cell? ⟨B, i, none⟩ = w.cell? ⟨B, i, none⟩ ∧ w'.frozen? ⟨B, i, none⟩ = w.frozen? ⟨B, i, none⟩) : Row7 B g w' :=
  ⟨Nat.lt_of_lt_of_le h.1 hz, fun i hi => ⟨(hc i).1.trans (h.2 i hi).1, (hc i).2.trans (h.2 i hi).2⟩⟩
theorem Row7.new (w : World) (t : TypeId) : Row7 w.heap.size zero (w.alloc (.cells #[.int .i64 0, .int .i64 0, .int .i64 0, .int .i64 0, .int .i64 0, .int .i64 0, .int .i64 0] t)) := by
  refine ⟨by simp, ?_⟩
  intro i hi
  match i, hi with
  | 0, _ => simp [zero]
  | 1, _ => simp [zero]
  | 2, _ => simp [zero]
  | 3, _ => simp [zero]
  | 4, _ => simp [zero]
  | 5, _ => simp [zero]
  | 6, _ => simp [zero]
theorem Row7.put {B : Nat} {g : Nat → Int} {w : World} (h : Row7 B g w) (j : Nat) (n : Int) : Row7 B (upd g j n) (w.setCell ⟨B, j, none⟩ (.int .i64 n)) := by
  refine ⟨by simp [World.setCell]; exact h.1, fun i hi => ⟨?_, by rw [World.frozen?_setCell]; exact (h.2 i hi).2⟩⟩
  by_cases hij : i = j
  · subst hij
    rw [upd_same]
    exact World.cell?_setCell_same _ _ _ (h.2 i hi).1
  · rw [upd_other _ _ hij, World.cell?_setCell_other _ _ _ _ (by intro e; exact hij (congrArg Addr.off e).symm)]
    exact (h.2 i hi).1
/-- The fault's box. -/
def Bad2 (B : Nat) (w : World) : Prop := B < w.heap.size ∧ (∃ v, w.cell? ⟨B, 0, none⟩ = some v) ∧ (∃ v, w.cell? ⟨B, 1, none⟩ = some v) ∧ w.frozen? ⟨B, 0, none⟩ = false ∧ w.frozen? ⟨B, 1, none⟩ = false
theorem Bad2.kept {B : Nat} {w w' : World} (h : Bad2 B w) (hz : w.heap.size ≤ w'.heap.size) (hc : ∀ i, w'.cell? ⟨B, i, none⟩ = w.cell? ⟨B, i, none⟩ ∧ w'.frozen? ⟨B, i, none⟩ = w.frozen? ⟨B, i, none⟩) : Bad2 B w' := by
  obtain ⟨h0, ⟨v, h1⟩, ⟨u, h2⟩, h3, h4⟩ := h
  exact ⟨Nat.lt_of_lt_of_le h0 hz, ⟨v, (hc 0).1.trans h1⟩, ⟨u, (hc 1).1.trans h2⟩, (hc 0).2.trans h3, (hc 1).2.trans h4⟩
theorem Five.keptc {B : Nat} {g : Nat → Int} {w w' : World} (h : Five B g w) (hz : w.heap.size ≤ w'.heap.size) (hc : ∀ i, w'.cell? ⟨B, i, none⟩ = w.cell? ⟨B, i, none⟩ ∧ w'.frozen? ⟨B, i, none⟩ = w.frozen? ⟨B, i, none⟩) : Five B g w' :=
  ⟨Nat.lt_of_lt_of_le h.1 hz, fun i hi => ⟨(hc i).1.trans (h.2 i hi).1, (hc i).2.trans (h.2 i hi).2⟩⟩
/-- How the document's reading stands. -/
def GS (w : World) (LB : Nat) (s : ByteArray) (K : Int) (g : Nat → Int) (wr : World) : Prop :=
  ScanAt (w.heap.size + 2) s K wr ∧ Row7 LB g wr ∧ Five w.heap.size zero wr ∧ Bad2 (w.heap.size + 1) wr ∧ Below w.heap.size w wr ∧ w.heap.size + 2 < LB
theorem GS.call {w : World} {LB : Nat} {s : ByteArray} {K : Int} {g : Nat → Int} {w1 w2 : World} (h : GS w LB s K g w1) (hb : Below w1.heap.size w1 w2) : GS w LB s K g w2 := by
  obtain ⟨h1, h2, h3, h4, h5, h6⟩ := h
  exact ⟨h1.call hb, h2.kept hb.size fun i => ⟨hb.cell (p := ⟨LB, i, none⟩) h2.1, hb.frozen (p := ⟨LB, i, none⟩) h2.1⟩, h3.call hb, h4.kept hb.size fun i => ⟨hb.cell (p := ⟨_, i, none⟩) h4.1, hb.frozen (p := ⟨_, i, none⟩) h4.1⟩, thenB h5 hb, h6⟩
theorem GS.move {w : World} {LB : Nat} {s : ByteArray} {K K' : Int} {g : Nat → Int} {w1 w2 : World} (h : GS w LB s K g w1) (hS : ScanAt (w.heap.size + 2) s K' w2) (hO : Only (w.heap.size + 2) w1 w2) : GS w LB s K' g w2 := by
  obtain ⟨h1, h2, h3, h4, h5, h6⟩ := h
  exact ⟨hS, h2.kept hO.1.size fun i => ⟨hO.cell (p := ⟨LB, i, none⟩) h2.1 (by show LB ≠ _; omega), hO.frozen (p := ⟨LB, i, none⟩) h2.1 (by show LB ≠ _; omega)⟩, h3.only hO (by omega), h4.kept hO.1.size fun i => ⟨hO.cell (p := ⟨_, i, none⟩) h4.1 (by show w.heap.size + 1 ≠ _; omega), hO.frozen (p := ⟨_, i, none⟩) h4.1 (by show w.heap.size + 1 ≠ _; omega)⟩, h5.trans (hO.1.mono (by omega)), h6⟩
theorem GS.at {w : World} {LB : Nat} {s : ByteArray} {K : Int} {g : Nat → Int} {w1 : World} (h : GS w LB s K g w1) (K' : Int) : GS w LB s K' g (w1.setCell ⟨w.heap.size + 2, 1, none⟩ (.int .i64 K')) :=
  h.move (h.1.set K') ((Only.refl _ _).setCell 1 _)
theorem GS.drewN {w : World} {LB : Nat} {s : ByteArray} {K : Int} {g : Nat → Int} {w1 : World} (h : GS w LB s K g w1) (n : Nat) : GS w LB s K g (w1.drewN n) :=
  ⟨h.1, h.2.1, h.2.2.1, h.2.2.2.1, below_drewN h.2.2.2.2.1 n, h.2.2.2.2.2⟩
theorem GS.put {w : World} {LB : Nat} {s : ByteArray} {K : Int} {g : Nat → Int} {w1 : World} (h : GS w LB s K g w1) (j : Nat) (n : Int) : GS w LB s K (upd g j n) (w1.setCell ⟨LB, j, none⟩ (.int .i64 n)) := by
  obtain ⟨h1, h2, h3, h4, h5, h6⟩ := h
  have hz : w1.heap.size ≤ (w1.setCell ⟨LB, j, none⟩ (.int .i64 n)).heap.size := by simp [World.setCell]
  have far : ∀ (B i : Nat), B ≠ LB → (w1.setCell ⟨LB, j, none⟩ (.int .i64 n)).cell? ⟨B, i, none⟩ = w1.cell? ⟨B, i, none⟩ ∧ (w1.setCell ⟨LB, j, none⟩ (.int .i64 n)).frozen? ⟨B, i, none⟩ = w1.frozen? ⟨B, i, none⟩ := fun B i hB => ⟨World.cell?_setCell_other _ _ _ _ (by intro e; exact hB (congrArg Addr.block e).symm), by rw [World.frozen?_setCell]⟩
  exact ⟨h1.set2 _ (by show LB ≠ _; omega) _, h2.put j n, h3.keptc hz fun i => far _ i (by omega), h4.kept hz fun i => far _ i (by omega), h5.setCell (p := ⟨LB, j, none⟩) (by show w.heap.size ≤ LB; omega) _, h6⟩
theorem GS.eqg {w : World} {LB : Nat} {s : ByteArray} {K : Int} {g g' : Nat → Int} {w1 : World} (h : GS w LB s K g w1) (e : ∀ i, i < 7 → g i = g' i) : GS w LB s K g' w1 :=
  ⟨h.1, ⟨h.2.1.1, fun i hi => by rw [← e i hi]; exact h.2.1.2 i hi⟩, h.2.2⟩
/-- Both results stored. -/
def set7 (w : World) (n : Nat) (x0 x1 x2 x3 x4 y0 y1 : Value) : World := ((((((w.setCell ⟨n, 0, none⟩ x0).setCell ⟨n, 1, none⟩ x1).setCell ⟨n, 2, none⟩ x2).setCell ⟨n, 3, none⟩ x3).setCell ⟨n, 4, none⟩ x4).setCell ⟨n + 1, 0, none⟩ y0).setCell ⟨n + 1, 1, none⟩ y1
theorem set7_is {w : World} {n : Nat} {g : Nat → Int} (h : Five n g w) (k : Bad2 (n + 1) w) (x0 x1 x2 x3 x4 y0 y1 : Value) :
    (set7 w n x0 x1 x2 x3 x4 y0 y1).cell? ⟨n, 0, none⟩ = some x0 ∧ (set7 w n x0 x1 x2 x3 x4 y0 y1).cell? ⟨n, 1, none⟩ = some x1 ∧ (set7 w n x0 x1 x2 x3 x4 y0 y1).cell? ⟨n, 2, none⟩ = some x2 ∧ (set7 w n x0 x1 x2 x3 x4 y0 y1).cell? ⟨n, 3, none⟩ = some x3 ∧ (set7 w n x0 x1 x2 x3 x4 y0 y1).cell? ⟨n, 4, none⟩ = some x4 ∧ (set7 w n x0 x1 x2 x3 x4 y0 y1).cell? ⟨n + 1, 0, none⟩ = some y0 ∧ (set7 w n x0 x1 x2 x3 x4 y0 y1).cell? ⟨n + 1, 1, none⟩ = some y1 := by
  obtain ⟨_, ⟨v0, k0⟩, ⟨v1, k1⟩, _, _⟩ := k
  have q := set_five w n x0 x1 x2 x3 x4 _ _ _ _ _ (h.2 0 (by omega)).1 (h.2 1 (by omega)).1 (h.2 2 (by omega)).1 (h.2 3 (by omega)).1 (h.2 4 (by omega)).1
  have far : ∀ (u : World) (i j : Nat) (x : Value), (u.setCell ⟨n, j, none⟩ x).cell? ⟨n + 1, i, none⟩ = u.cell? ⟨n + 1, i, none⟩ := fun u i j x => World.cell?_setCell_other _ _ _ _ (by intro e; have := congrArg Addr.block e; simp at this)
  have far2 : ∀ (u : World) (i j : Nat) (x : Value), (u.setCell ⟨n + 1, j, none⟩ x).cell? ⟨n, i, none⟩ = u.cell? ⟨n, i, none⟩ := fun u i j x => World.cell?_setCell_other _ _ _ _ (by intro e; have := congrArg Addr.block e; simp at this)
  have z0 : (((((w.setCell ⟨n, 0, none⟩ x0).setCell ⟨n, 1, none⟩ x1).setCell ⟨n, 2, none⟩ x2).setCell ⟨n, 3, none⟩ x3).setCell ⟨n, 4, none⟩ x4).cell? ⟨n + 1, 0, none⟩ = some v0 := by rw [far, far, far, far, far]; exact k0
  have z1 : (((((w.setCell ⟨n, 0, none⟩ x0).setCell ⟨n, 1, none⟩ x1).setCell ⟨n, 2, none⟩ x2).setCell ⟨n, 3, none⟩ x3).setCell ⟨n, 4, none⟩ x4).cell? ⟨n + 1, 1, none⟩ = some v1 := by rw [far, far, far, far, far]; exact k1
  unfold set7
  refine ⟨by rw [far2, far2]; exact q.1, by rw [far2, far2]; exact q.2.1, by rw [far2, far2]; exact q.2.2.1, by rw [far2, far2]; exact q.2.2.2.1, by rw [far2, far2]; exact q.2.2.2.2, ?_, ?_⟩
  · rw [World.cell?_setCell_other _ _ _ _ (by intro e; have := congrArg Addr.off e; simp at this)]
    exact World.cell?_setCell_same _ _ _ z0
  · refine World.cell?_setCell_same _ _ _ (u := v1) ?_
    rw [World.cell?_setCell_other _ _ _ _ (by intro e; have := congrArg Addr.off e; simp at this)]
    exact z1
theorem set7_below {w w1 : World} (h : Below w.heap.size w w1) (x0 x1 x2 x3 x4 y0 y1 : Value) : Below w.heap.size w (set7 w1 w.heap.size x0 x1 x2 x3 x4 y0 y1) :=
  ((below_set5 h (Nat.le_refl _) x0 x1 x2 x3 x4).setCell (p := ⟨w.heap.size + 1, 0, none⟩) (Nat.le_succ _) y0).setCell (p := ⟨w.heap.size + 1, 1, none⟩) (Nat.le_succ _) y1
def PerR (R : Scm.Per) (w : World) (e : Ending) (w' : World) : Prop := e = .returned (.tuple #[agg5 R.v, .agg #[.int .i64 R.err, .int .i64 R.place]]) ∧ Below w.heap.size w w'
def glue (V t : Nat → Int) : Nat → Int := fun j => if j < 4 then V j else t (j - 4)
theorem upd_glue (V t : Nat → Int) (j : Nat) (n : Int) : ∀ i, i < 7 → upd (glue V t) (4 + j) n i = glue V (upd t j n) i := by
  intro i _
  unfold upd glue
  by_cases h : i = 4 + j
  · subst h; rw [if_pos rfl, if_neg (by omega)]; show n = if 4 + j - 4 = j then n else _; rw [if_pos (by omega)]
  · rw [if_neg h]
    by_cases h4 : i < 4
    · rw [if_pos h4, if_pos h4]
    · rw [if_neg h4, if_neg h4]; show _ = if i - 4 = j then n else _; rw [if_neg (by omega)]
/-- What the second part is worth. -/
def finB (l : List UInt8) (V : Nat → Int) (x : Ures) : Scm.Per := if x.err = 0 then perZ l V x.val x.some_ x.at_ else ⟨x.err, x.at_, zero⟩
theorem finB_err {l : List UInt8} {V : Nat → Int} {x : Ures} (h : x.err ≠ 0) : finB l V x = ⟨x.err, x.at_, zero⟩ := if_neg h
theorem finB_ok {l : List UInt8} {V : Nat → Int} {x : Ures} (h : x.err = 0) : finB l V x = perZ l V x.val x.some_ x.at_ := if_pos h
/-- The units that are left. -/
def Left (us : List UInt8) (u : ByteArray) (n : Nat) : Prop := u.data.toList = us.drop n ∧ (∀ c, c ∈ us → c ≠ 0)
theorem Left.size {us : List UInt8} {u : ByteArray} {n : Nat} (h : Left us u n) : u.size = us.length - n := by rw [Lib.size_eq, h.1, List.length_drop]
theorem Left.next {us : List UInt8} {u : ByteArray} {n i : Nat} (h : Left us u n) : Left us (u.extract (i + 1) u.size) (n + i + 1) := ⟨by rw [ext_fromT, h.1, List.drop_drop]; rfl, h.2⟩
theorem Left.get {us : List UInt8} {u : ByteArray} {n j : Nat} (h : Left us u n) (hj : j < u.size) : ∃ hh : j < (us.drop n).length, (us.drop n)[j] = u[j] := by
  have e := h.1
  refine ⟨by rw [← e, lenT]; exact hj, ?_⟩
  simp only [← e]
  rfl
theorem find_none {us : List UInt8} {u : ByteArray} {n : Nat} {c : UInt8} (h : Left us u n) (hn : ∀ j, (hj : j < u.size) → u[j] ≠ c) : (us.drop n).findIdx? (· == c) = none := by
  rw [List.findIdx?_eq_none_iff]
  intro x hx
  obtain ⟨j, hj, rfl⟩ := List.mem_iff_getElem.1 hx
  have hj2 : j < u.size := by rw [← h.1, lenT] at hj; exact hj
  obtain ⟨_, e⟩ := h.get hj2
  rw [e]
  simpa using hn j hj2
theorem find_some {us : List UInt8} {u : ByteArray} {n i : Nat} {c : UInt8} (h : Left us u n) (hi : i < u.size) (hc : u[i] = c) (hn : ∀ j, (hj : j < u.size) → j < i → u[j] ≠ c) : (us.drop n).findIdx? (· == c) = some i := by
  rw [List.findIdx?_eq_some_iff_getElem]
  obtain ⟨h1, e⟩ := h.get hi
  refine ⟨h1, by rw [e]; simpa using hc, fun j hj => ?_⟩
  obtain ⟨_, e2⟩ := h.get (Nat.lt_trans hj hi)
  rw [e2]
  simpa using hn j (Nat.lt_trans hj hi) hj
theorem nz {us : List UInt8} {u : ByteArray} {n j : Nat} (h : Left us u n) (hj : j < u.size) : u[j] ≠ 0 := by
  obtain ⟨h1, e⟩ := h.get hj
  rw [← e]
  exact h.2 _ (List.mem_of_mem_drop (List.getElem_mem h1))
theorem Bad2.new (w : World) (t : TypeId) : Bad2 w.heap.size (w.alloc (.cells #[.int .i64 0, .int .i64 0] t)) := ⟨by simp, ⟨.int .i64 0, by simp⟩, ⟨.int .i64 0, by simp⟩, by simp, by simp⟩
/-- How a round of the document's reading begins. -/
def InRel (w : World) (LB : Nat) (s : ByteArray) (R : Scm.Per) (us bs sm : Value) (wr : World) : Prop :=
  (∃ (u : ByteArray) (nx K f : Nat) (v : Nat → Int) (sb : Bool), us = .string u ∧ bs = .int .i64 0 ∧ sm = .bool sb ∧ nx ≤ 4 ∧ 4 < nx + f ∧ u.size = 4 - nx ∧ K ≤ s.size ∧ Hid (Left ymwd u nx) ∧ Hid (perT s.data.toList (unitsF s.data.toList ymwd f nx K v sb) = R) ∧ Hid (GS w LB s K v wr) ∧ Hid (∀ j, 0 ≤ v j ∧ v j < 100000000 ∧ (4 ≤ j → v j = 0))) ∨
        (∃ (u : ByteArray) (nx K f : Nat) (V t : Nat → Int) (sb : Bool), us = .string u ∧ bs = .int .i64 4 ∧ sm = .bool sb ∧ nx ≤ 3 ∧ 3 < nx + f ∧ u.size = 3 - nx ∧ K ≤ s.size ∧ Hid (Left hms u nx) ∧ Hid (finB s.data.toList V (unitsF s.data.toList hms f nx K t sb) = R) ∧ Hid (GS w LB s K (glue V t) wr) ∧ Hid (∀ j, 0 ≤ V j ∧ V j < 100000000 ∧ 0 ≤ t j ∧ t j < 100000000))
def inMs (us bs : Value) : Nat := (match us with | .string u => u.size | _ => 0) + (match bs with | .int _ 0 => 10 | _ => 0)
theorem glue_zero {v : Nat → Int} (h : ∀ j, 4 ≤ j → v j = 0) : ∀ i, i < 7 → v i = glue v zero i := by
  intro i _
  unfold glue
  by_cases h4 : i < 4
  · rw [if_pos h4]
  · rw [if_neg h4]; exact h i (by omega)
theorem miss {s u : ByteArray} {us : List UInt8} {nx K R0 f K2 : Nat} {v : Nat → Int} {sb : Bool} (hL : Left us u nx) (hR : runL s.data.toList K = R0) (h1 : 0 < R0) (h8 : R0 ≤ 8) (hK : K + R0 = K2) (hn : ∀ j, (hj : j < u.size) → u[j] ≠ nxt s K2) :
    unitsF s.data.toList us (f + 1) nx K v sb = ⟨K2, v, sb, 5⟩ := by
  subst hR hK
  by_cases hlt : K + runL s.data.toList K < s.size
  · refine unitsF_bad h1 h8 (by rw [lenT]; exact hlt) (find_none hL fun j hj => ?_)
    have e := nxt_in hlt
    have q := hn j hj
    rw [e] at q
    exact q
  · exact unitsF_end h1 h8 (by rw [lenT]; omega)
theorem hit {s u : ByteArray} {us : List UInt8} {nx K R0 f K2 i : Nat} {v : Nat → Int} {sb : Bool} (hL : Left us u nx) (hR : runL s.data.toList K = R0) (h1 : 0 < R0) (h8 : R0 ≤ 8) (hK : K + R0 = K2) (hi : i < u.size) (hc : u[i] = nxt s K2) (hn : ∀ j, (hj : j < u.size) → j < i → u[j] ≠ nxt s K2) :
    K2 < s.size ∧ unitsF s.data.toList us (f + 1) nx K v sb = unitsF s.data.toList us f (nx + i + 1) (K2 + 1) (upd v (nx + i) (num_ s K R0 : Nat)) true := by
  subst hR hK
  have hlt : K + runL s.data.toList K < s.size := by
    rcases Nat.lt_or_ge (K + runL s.data.toList K) s.size with h | h
    · exact h
    · exact absurd (hc.trans (nxt_end (by omega))) (nz hL hi)
  have e := nxt_in hlt
  refine ⟨hlt, unitsF_next h1 h8 (by rw [lenT]; exact hlt) (find_some hL hi (hc.trans e) fun j hj hji => ?_)⟩
  have q := hn j hj hji
  rw [e] at q
  exact q
theorem inMs_T {u : ByteArray} {k : IntKind} : inMs (.string ⟨#[72, 77, 83]⟩) (.int .i64 4) < inMs (.string u) (.int k 0) := by
  show 3 + 0 < u.size + 10
  omega
theorem inMs_u {u u2 : ByteArray} {b : Value} (h : u2.size < u.size) : inMs (.string u2) b < inMs (.string u) b := by
  show u2.size + _ < u.size + _
  omega
set_option maxRecDepth 100000 in
set_option maxHeartbeats 16000000 in
theorem rparse_no (s : ByteArray) (w : World) (hs : s.size ≤ 9223372036854775807) (hB : isB s 0 45 = false) :
    Calls Tryz.prog 36 #[.string s] w (PerR (perF s.data.toList) w) := by
  obtain ⟨hsg, hsk⟩ := sg_no hB
  have C45 : Hid (∀ w0, ScanAt (w.heap.size + 2) s 0 w0 → Calls Tryz.prog 23 #[.pointer (some ⟨w.heap.size + 2, 0, none⟩), .int .u8 45] w0 fun e w' => e = .returned (.bool false) ∧ ScanAt (w.heap.size + 2) s 0 w' ∧ Only (w.heap.size + 2) w0 w') := Lib.hid fun w0 h => by
    have q := ris_any (w.heap.size + 2) s 0 45 w0 h (by omega)
    rw [hB, isK_no hB] at q
    exact q
  have HW2 : Hid (ScanAt (w.heap.size + 2) s 0 (((w.alloc (.cells #[.int .i64 0, .int .i64 0, .int .i64 0, .int .i64 0, .int .i64 0] 43)).alloc (.cells #[.int .i64 0, .int .i64 0] 29)).alloc (.cells #[.string s, .int .i64 0] 56)) ∧ Five w.heap.size zero (((w.alloc (.cells #[.int .i64 0, .int .i64 0, .int .i64 0, .int .i64 0, .int .i64 0] 43)).alloc (.cells #[.int .i64 0, .int .i64 0] 29)).alloc (.cells #[.string s, .int .i64 0] 56)) ∧ Bad2 (w.heap.size + 1) (((w.alloc (.cells #[.int .i64 0, .int .i64 0, .int .i64 0, .int .i64 0, .int .i64 0] 43)).alloc (.cells #[.int .i64 0, .int .i64 0] 29)).alloc (.cells #[.string s, .int .i64 0] 56)) ∧ Below w.heap.size w (((w.alloc (.cells #[.int .i64 0, .int .i64 0, .int .i64 0, .int .i64 0, .int .i64 0] 43)).alloc (.cells #[.int .i64 0, .int .i64 0] 29)).alloc (.cells #[.string s, .int .i64 0] 56))) := Lib.hid (by
    have q := ScanAt.new ((w.alloc (.cells #[.int .i64 0, .int .i64 0, .int .i64 0, .int .i64 0, .int .i64 0] 43)).alloc (.cells #[.int .i64 0, .int .i64 0] 29)) s 0 56
    rw [World.size_alloc, World.size_alloc] at q
    have q2 := Bad2.new (w.alloc (.cells #[.int .i64 0, .int .i64 0, .int .i64 0, .int .i64 0, .int .i64 0] 43)) 29
    rw [World.size_alloc] at q2
    refine ⟨q, (Five.new w _).call (((Below.refl _ _).alloc (Nat.le_refl _) _).alloc (by simp) _), q2.kept (by simp) fun i => ?_, (((Below.refl _ _).alloc (Nat.le_refl _) _).alloc (by simp) _).alloc (by simp; omega) _⟩
    exact ⟨World.cell?_alloc_lt _ _ ⟨w.heap.size + 1, i, none⟩ (by simp), World.frozen?_alloc_old _ _ ⟨w.heap.size + 1, i, none⟩ (by simp)⟩)
  have HSG := Lib.hid hsg
  have HSK := Lib.hid hsk
  have hk1 : 0 ≤ s.size := by have := isK_le (s := s) (k := 0) (c := 45) (by omega); rw [isK_no hB] at this; exact this
  clear hB hsg hsk
  rcases hP : isB s 0 80 with _ | _
  · have C80 : Hid (∀ w0, ScanAt (w.heap.size + 2) s 0 w0 → Calls Tryz.prog 23 #[.pointer (some ⟨w.heap.size + 2, 0, none⟩), .int .u8 80] w0 fun e w' => e = .returned (.bool false) ∧ ScanAt (w.heap.size + 2) s 0 w' ∧ Only (w.heap.size + 2) w0 w') := Lib.hid fun w0 h => by
      have q := ris_any (w.heap.size + 2) s 0 80 w0 h (by omega)
      rw [hP, isK_no hP] at q
      exact q
    have HE : Hid (perF s.data.toList = ⟨5, (0 : Nat), zero⟩) := Lib.hid (perF_no HSK.out hP)
    clear hP hk1
    have CF : Hid (∀ w0, ScanAt (w.heap.size + 2) s 0 w0 → Calls Tryz.prog 26 #[.pointer (some ⟨w.heap.size + 2, 0, none⟩)] w0 fun e w' => e = .returned (.agg #[.int .i64 5, .int .i64 0]) ∧ Below w0.heap.size w0 w') := Lib.hid fun w0 h => form_any (w.heap.size + 2) s 0 w0 h
    go_enter Tryz.func36, Tryz.ntmps36
    go_wp2_with (first
      | (go_at_call 23; (with_reducible refine (C45.out _ HW2.out.1).mono ?_); rintro e w1 ⟨rfl, hS, hO⟩; have HS1 := Lib.hid hS; have HF1 := Lib.hid (HW2.out.2.1.only hO (by omega)); have HX1 := Lib.hid (HW2.out.2.2.1.kept hO.1.size fun i => ⟨hO.cell (p := ⟨w.heap.size + 1, i, none⟩) HW2.out.2.2.1.1 (by show w.heap.size + 1 ≠ _; omega), hO.frozen (p := ⟨w.heap.size + 1, i, none⟩) HW2.out.2.2.1.1 (by show w.heap.size + 1 ≠ _; omega)⟩); have HO1 := Lib.hid (hO.new HW2.out.2.2.2 (by omega)); have HL1 := Lib.hid hS.1; clear hS hO)
      | (go_at_call 23; (with_reducible refine (C80.out _ HS1.out).mono ?_); rintro e w2 ⟨rfl, hS, hO⟩; have HG2 : Hid (∀ w3, Below w2.heap.size w2 w3 → ScanAt (w.heap.size + 2) s 0 w3 ∧ Five w.heap.size zero w3 ∧ Bad2 (w.heap.size + 1) w3 ∧ Below w.heap.size w w3) := Lib.hid fun w3 hb => ⟨hS.call hb, (HF1.out.only hO (by omega)).call hb, (HX1.out.kept hO.1.size fun i => ⟨hO.cell (p := ⟨w.heap.size + 1, i, none⟩) HX1.out.1 (by show w.heap.size + 1 ≠ _; omega), hO.frozen (p := ⟨w.heap.size + 1, i, none⟩) HX1.out.1 (by show w.heap.size + 1 ≠ _; omega)⟩).kept hb.size fun i => ⟨hb.cell (p := ⟨w.heap.size + 1, i, none⟩) (Nat.lt_of_lt_of_le HX1.out.1 hO.1.size), hb.frozen (p := ⟨w.heap.size + 1, i, none⟩) (Nat.lt_of_lt_of_le HX1.out.1 hO.1.size)⟩, thenB (hO.new HO1.out (by omega)) hb⟩; have HL2 := Lib.hid hS.1; have HS2 := Lib.hid hS; clear hS hO)
      | (go_at_call 26; (with_reducible refine (CF.out _ HS2.out).mono ?_); rintro e wz ⟨rfl, hbz⟩; have HGz := Lib.hid (HG2.out _ hbz); clear hbz; have r0 := (HGz.out.2.1.2 0 (by omega)).1; have rf0 := (HGz.out.2.1.2 0 (by omega)).2; have r1 := (HGz.out.2.1.2 1 (by omega)).1; have rf1 := (HGz.out.2.1.2 1 (by omega)).2; have r2 := (HGz.out.2.1.2 2 (by omega)).1; have rf2 := (HGz.out.2.1.2 2 (by omega)).2; have r3 := (HGz.out.2.1.2 3 (by omega)).1; have rf3 := (HGz.out.2.1.2 3 (by omega)).2; have r4 := (HGz.out.2.1.2 4 (by omega)).1; have rf4 := (HGz.out.2.1.2 4 (by omega)).2; obtain ⟨e0v, e0⟩ := HGz.out.2.2.1.2.1; obtain ⟨e1v, e1⟩ := HGz.out.2.2.1.2.2.1; have ef0 := HGz.out.2.2.1.2.2.2.1; have ef1 := HGz.out.2.2.1.2.2.2.2))
    have hq := set7_is HGz.out.2.1 HGz.out.2.2.1 (.int .i64 0) (.int .i64 0) (.int .i64 0) (.int .i64 0) (.int .i64 0) (.int .i64 5) (.int .i64 0)
    have hbw := set7_below HGz.out.2.2.2 (.int .i64 0) (.int .i64 0) (.int .i64 0) (.int .i64 0) (.int .i64 0) (.int .i64 5) (.int .i64 0)
    unfold set7 at hq hbw
    exact bodyPost_ret (v := .tuple #[.agg #[.int .i64 0, .int .i64 0, .int .i64 0, .int .i64 0, .int .i64 0], .agg #[.int .i64 5, .int .i64 0]]) (by simp [results, Tryz.results36, go_sem, hq.1, hq.2.1, hq.2.2.1, hq.2.2.2.1, hq.2.2.2.2.1, hq.2.2.2.2.2.1, hq.2.2.2.2.2.2]) rfl ⟨by rw [HE.out]; rfl, hbw⟩
  · have C80 : Hid (∀ w0, ScanAt (w.heap.size + 2) s 0 w0 → Calls Tryz.prog 23 #[.pointer (some ⟨w.heap.size + 2, 0, none⟩), .int .u8 80] w0 fun e w' => e = .returned (.bool true) ∧ ScanAt (w.heap.size + 2) s (0 + 1) w' ∧ Only (w.heap.size + 2) w0 w') := Lib.hid fun w0 h => by
      have q := ris_any (w.heap.size + 2) s 0 80 w0 h (by omega)
      rw [hP, isK_yes hP] at q
      exact q
    have hkl : 0 + 1 ≤ s.size := isB_lt hP
    have HE : Hid (perT s.data.toList (unitsF s.data.toList ymwd 5 0 (0 + 1) zero false) = perF s.data.toList) := Lib.hid (perF_yes HSK.out hP).symm
    obtain ⟨R, hR⟩ : ∃ R, perF s.data.toList = R := ⟨_, rfl⟩
    rw [hR] at HE ⊢
    clear hP hk1 hR
    go_enter Tryz.func36, Tryz.ntmps36
    go_wp2_with (first
      | (go_at_call 23; (with_reducible refine (C45.out _ HW2.out.1).mono ?_); rintro e w1 ⟨rfl, hS, hO⟩; have HS1 := Lib.hid hS; have HF1 := Lib.hid (HW2.out.2.1.only hO (by omega)); have HX1 := Lib.hid (HW2.out.2.2.1.kept hO.1.size fun i => ⟨hO.cell (p := ⟨w.heap.size + 1, i, none⟩) HW2.out.2.2.1.1 (by show w.heap.size + 1 ≠ _; omega), hO.frozen (p := ⟨w.heap.size + 1, i, none⟩) HW2.out.2.2.1.1 (by show w.heap.size + 1 ≠ _; omega)⟩); have HO1 := Lib.hid (hO.new HW2.out.2.2.2 (by omega)); have HL1 := Lib.hid hS.1; clear hS hO)
      | (go_at_call 23; (with_reducible refine (C80.out _ HS1.out).mono ?_); rintro e w2 ⟨rfl, hS, hO⟩; have HG2 : Hid (∀ w3, Below w2.heap.size w2 w3 → ScanAt (w.heap.size + 2) s (0 + 1) w3 ∧ Five w.heap.size zero w3 ∧ Bad2 (w.heap.size + 1) w3 ∧ Below w.heap.size w w3) := Lib.hid fun w3 hb => ⟨hS.call hb, (HF1.out.only hO (by omega)).call hb, (HX1.out.kept hO.1.size fun i => ⟨hO.cell (p := ⟨w.heap.size + 1, i, none⟩) HX1.out.1 (by show w.heap.size + 1 ≠ _; omega), hO.frozen (p := ⟨w.heap.size + 1, i, none⟩) HX1.out.1 (by show w.heap.size + 1 ≠ _; omega)⟩).kept hb.size fun i => ⟨hb.cell (p := ⟨w.heap.size + 1, i, none⟩) (Nat.lt_of_lt_of_le HX1.out.1 hO.1.size), hb.frozen (p := ⟨w.heap.size + 1, i, none⟩) (Nat.lt_of_lt_of_le HX1.out.1 hO.1.size)⟩, thenB (hO.new HO1.out (by omega)) hb⟩; have HL2 := Lib.hid hS.1; have HS2 := Lib.hid hS; clear hS hO))
    have HG3 : Hid (GS w w2.heap.size s (0 + 1) zero (w2.alloc (.cells #[.int .i64 0, .int .i64 0, .int .i64 0, .int .i64 0, .int .i64 0, .int .i64 0, .int .i64 0] 127))) := Lib.hid (by
      have q := HG2.out _ ((Below.refl _ _).alloc (Nat.le_refl _) (.cells #[.int .i64 0, .int .i64 0, .int .i64 0, .int .i64 0, .int .i64 0, .int .i64 0, .int .i64 0] 127))
      exact ⟨q.1, Row7.new w2 _, q.2.1, q.2.2.1, q.2.2.2, HL2.out⟩)
    have HLA : Hid (Left ymwd ⟨#[89, 77, 87, 68]⟩ 0) := Lib.hid ⟨rfl, by decide⟩
    have HLB : Hid (Left hms ⟨#[72, 77, 83]⟩ 0) := Lib.hid ⟨rfl, by decide⟩
    clear HG2 HL2
    go_loopw [6, 8, 9] (fun us bs sm wr => InRel w w2.heap.size s R us bs sm wr) (fun us bs _ _ => inMs us bs)
    case atStart => exact .inl ⟨_, 0, 0 + 1, 5, zero, false, rfl, rfl, rfl, by omega, by omega, rfl, hkl, HLA, HE, HG3, Lib.hid fun j => by simp [zero]⟩
    case round =>
      clear HE HG3 HLA
      obtain ⟨wA, hwA⟩ : ∃ wA : World, wA = wr := ⟨_, rfl⟩
      subst hwA
      rcases hrel with ⟨u, nx, K, f, v, sb, rfl, rfl, rfl, hnx, hf, hus, hK, HL, HE, HG, HV⟩ | ⟨u, nx, K, f, v, t, sb, rfl, rfl, rfl, hnx, hf, hus, hK, HL, HE, HG, HV⟩
      · obtain ⟨f, rfl⟩ : ∃ q, f = q + 1 := ⟨f - 1, by omega⟩
        have CR : Hid (∀ w0, ScanAt (w.heap.size + 2) s K w0 → Calls Tryz.prog 51 #[.pointer (some ⟨w.heap.size + 2, 0, none⟩)] w0 fun e w' => e = .returned (.int .i64 (run_ s K : Nat)) ∧ ∃ q, w' = w0.drewN q) := Lib.hid fun w0 h => rrun_any (w.heap.size + 2) s K w0 h hK hs
        obtain ⟨R0, hR⟩ : ∃ R, run_ s K = R := ⟨_, rfl⟩
        have HR2 : Hid (runL s.data.toList K = R0) := Lib.hid hR
        have hRs := run_le s K hK
        rw [hR] at CR hRs
        have HR := Lib.hid hR
        clear hR
        have HGS := Lib.hid HG.out.1
        rcases hT : isB s K 84 with _ | _
        rotate_left
        · have C84 : Hid (∀ w0, ScanAt (w.heap.size + 2) s K w0 → Calls Tryz.prog 23 #[.pointer (some ⟨w.heap.size + 2, 0, none⟩), .int .u8 84] w0 fun e w' => e = .returned (.bool true) ∧ ScanAt (w.heap.size + 2) s ((K : Int) + 1) w' ∧ Only (w.heap.size + 2) w0 w') := Lib.hid fun w0 h => by
            have q := ris_any (w.heap.size + 2) s K 84 w0 h (by omega)
            rw [hT, isK_yes hT] at q
            exact q
          have hR0 : runL s.data.toList K = 0 := by
            have h1 := isB_lt hT
            have h2 := isB_iff.1 hT
            rw [List.getElem?_eq_getElem (by rw [lenT]; exact h1)] at h2
            exact runL_no (by rw [lenT]; exact h1) (by rw [Option.some.inj h2]; decide)
          have HE2 : Hid (finB s.data.toList v (unitsF s.data.toList hms 4 0 (K + 1) zero false) = R) := Lib.hid (by rw [← HE.out, unitsF_none hR0]; exact (perT_yes (u := ⟨K, v, sb, 0⟩) rfl hT rfl).symm)
          have hKT : K + 1 ≤ s.size := isB_lt hT
          clear hT hR0 hRs
          go_wp2_with (go_at_call 23; (with_reducible refine (C84.out _ HGS.out).mono ?_); rintro e w4 ⟨rfl, hS, hO⟩; have HG4 := Lib.hid (HG.out.move hS hO); clear hS hO)
          go_roundw
          case rel => exact .inr ⟨_, 0, K + 1, 4, v, zero, false, rfl, rfl, rfl, by omega, by omega, rfl, hKT, HLB, HE2, Lib.hid (HG4.out.eqg (glue_zero fun i hi => (HV.out i).2.2 hi)), Lib.hid fun j => ⟨(HV.out j).1, (HV.out j).2.1, by simp [zero], by simp [zero]⟩⟩
          case measure => exact inMs_T
        · have C84 : Hid (∀ w0, ScanAt (w.heap.size + 2) s K w0 → Calls Tryz.prog 23 #[.pointer (some ⟨w.heap.size + 2, 0, none⟩), .int .u8 84] w0 fun e w' => e = .returned (.bool false) ∧ ScanAt (w.heap.size + 2) s K w' ∧ Only (w.heap.size + 2) w0 w') := Lib.hid fun w0 h => by
            have q := ris_any (w.heap.size + 2) s K 84 w0 h (by omega)
            rw [hT, isK_no hT] at q
            exact q
          have HT := Lib.hid hT
          clear hT
          by_cases hR0 : R0 = 0
          · have hRl : runL s.data.toList K = 0 := HR2.out.trans hR0
            subst hR0
            have HE2 : Hid (perZ s.data.toList v zero sb K = R) := Lib.hid (by rw [← HE.out, unitsF_none hRl]; exact (perT_no (u := ⟨K, v, sb, 0⟩) rfl HT.out).symm)
            clear hRl
            have CF : Hid (∀ w0, ScanAt (w.heap.size + 2) s K w0 → Calls Tryz.prog 26 #[.pointer (some ⟨w.heap.size + 2, 0, none⟩)] w0 fun e w' => e = .returned (.agg #[.int .i64 5, .int .i64 (K : Int)]) ∧ Below w0.heap.size w0 w') := Lib.hid fun w0 h => form_any (w.heap.size + 2) s K w0 h
            rcases sb with _ | _
            · have HE3 := Lib.hid (HE2.out.symm.trans (perZ_bad (.inl rfl)))
              go_wp2_with (first
                | (go_at_call 23; (with_reducible refine (C84.out _ HGS.out).mono ?_); rintro e w4 ⟨rfl, hS, hO⟩; have HG4 := Lib.hid (HG.out.move hS hO); have HS4 := Lib.hid hS; clear hS hO)
                | (go_at_call 51; (with_reducible refine (CR.out _ HS4.out).mono ?_); rintro e w5 ⟨rfl, q, rfl⟩; have HG5 := Lib.hid (HG4.out.drewN q); obtain ⟨-, s0, s1, -⟩ := HG4.out.1)
                | (go_at_call 26; (with_reducible refine (CF.out _ (HS4.out.drewN _)).mono ?_); rintro e wz ⟨rfl, hbz⟩; have HGz := Lib.hid (HG5.out.call hbz); clear hbz s0 s1; have r0 := (HGz.out.2.2.1.2 0 (by omega)).1; have rf0 := (HGz.out.2.2.1.2 0 (by omega)).2; have r1 := (HGz.out.2.2.1.2 1 (by omega)).1; have rf1 := (HGz.out.2.2.1.2 1 (by omega)).2; have r2 := (HGz.out.2.2.1.2 2 (by omega)).1; have rf2 := (HGz.out.2.2.1.2 2 (by omega)).2; have r3 := (HGz.out.2.2.1.2 3 (by omega)).1; have rf3 := (HGz.out.2.2.1.2 3 (by omega)).2; have r4 := (HGz.out.2.2.1.2 4 (by omega)).1; have rf4 := (HGz.out.2.2.1.2 4 (by omega)).2; obtain ⟨e0v, e0⟩ := HGz.out.2.2.2.1.2.1; obtain ⟨e1v, e1⟩ := HGz.out.2.2.2.1.2.2.1; have ef0 := HGz.out.2.2.2.1.2.2.2.1; have ef1 := HGz.out.2.2.2.1.2.2.2.2))
              have hq := set7_is HGz.out.2.2.1 HGz.out.2.2.2.1 (.int .i64 (0)) (.int .i64 (0)) (.int .i64 (0)) (.int .i64 (0)) (.int .i64 (0)) (.int .i64 5) (.int .i64 (K : Int))
              have hbw := set7_below HGz.out.2.2.2.2.1 (.int .i64 (0)) (.int .i64 (0)) (.int .i64 (0)) (.int .i64 (0)) (.int .i64 (0)) (.int .i64 5) (.int .i64 (K : Int))
              unfold set7 at hq hbw
              exact bodyPost_ret (v := .tuple #[.agg #[.int .i64 (0), .int .i64 (0), .int .i64 (0), .int .i64 (0), .int .i64 (0)], .agg #[.int .i64 5, .int .i64 (K : Int)]]) (by simp [results, Tryz.results36, go_sem, hq.1, hq.2.1, hq.2.2.1, hq.2.2.2.1, hq.2.2.2.2.1, hq.2.2.2.2.2.1, hq.2.2.2.2.2.2]) rfl ⟨by rw [HE3.out]; rfl, hbw⟩
            · by_cases hlt : K < s.size
              · have HE3 := Lib.hid (HE2.out.symm.trans (perZ_bad (.inr hlt)))
                have hld : decide (K < s.size) = true := decide_eq_true hlt
                have hldi : decide ((K : Int) < (s.size : Int)) = true := decide_eq_true (by omega)
                go_wp2_with (first
                  | (go_at_call 23; (with_reducible refine (C84.out _ HGS.out).mono ?_); rintro e w4 ⟨rfl, hS, hO⟩; have HG4 := Lib.hid (HG.out.move hS hO); have HS4 := Lib.hid hS; clear hS hO)
                  | (go_at_call 51; (with_reducible refine (CR.out _ HS4.out).mono ?_); rintro e w5 ⟨rfl, q, rfl⟩; have HG5 := Lib.hid (HG4.out.drewN q); obtain ⟨-, s0, s1, -⟩ := HG4.out.1)
                  | (go_at_call 26; (with_reducible refine (CF.out _ (HS4.out.drewN _)).mono ?_); rintro e wz ⟨rfl, hbz⟩; have HGz := Lib.hid (HG5.out.call hbz); clear hbz s0 s1; have r0 := (HGz.out.2.2.1.2 0 (by omega)).1; have rf0 := (HGz.out.2.2.1.2 0 (by omega)).2; have r1 := (HGz.out.2.2.1.2 1 (by omega)).1; have rf1 := (HGz.out.2.2.1.2 1 (by omega)).2; have r2 := (HGz.out.2.2.1.2 2 (by omega)).1; have rf2 := (HGz.out.2.2.1.2 2 (by omega)).2; have r3 := (HGz.out.2.2.1.2 3 (by omega)).1; have rf3 := (HGz.out.2.2.1.2 3 (by omega)).2; have r4 := (HGz.out.2.2.1.2 4 (by omega)).1; have rf4 := (HGz.out.2.2.1.2 4 (by omega)).2; obtain ⟨e0v, e0⟩ := HGz.out.2.2.2.1.2.1; obtain ⟨e1v, e1⟩ := HGz.out.2.2.2.1.2.2.1; have ef0 := HGz.out.2.2.2.1.2.2.2.1; have ef1 := HGz.out.2.2.2.1.2.2.2.2))
                have hq := set7_is HGz.out.2.2.1 HGz.out.2.2.2.1 (.int .i64 (0)) (.int .i64 (0)) (.int .i64 (0)) (.int .i64 (0)) (.int .i64 (0)) (.int .i64 5) (.int .i64 (K : Int))
                have hbw := set7_below HGz.out.2.2.2.2.1 (.int .i64 (0)) (.int .i64 (0)) (.int .i64 (0)) (.int .i64 (0)) (.int .i64 (0)) (.int .i64 5) (.int .i64 (K : Int))
                unfold set7 at hq hbw
                exact bodyPost_ret (v := .tuple #[.agg #[.int .i64 (0), .int .i64 (0), .int .i64 (0), .int .i64 (0), .int .i64 (0)], .agg #[.int .i64 5, .int .i64 (K : Int)]]) (by simp [results, Tryz.results36, go_sem, hq.1, hq.2.1, hq.2.2.1, hq.2.2.2.1, hq.2.2.2.2.1, hq.2.2.2.2.2.1, hq.2.2.2.2.2.2]) rfl ⟨by rw [HE3.out]; rfl, hbw⟩
              · have HE3 := Lib.hid (perZ_ok (s := s) (v := v) (t := zero) (b := true) (k := K) rfl hlt)
                have hld : decide (K < s.size) = false := decide_eq_false hlt
                have hldi : decide ((K : Int) < (s.size : Int)) = false := decide_eq_false (by omega)
                go_wp2_with (first
                  | (go_at_call 23; (with_reducible refine (C84.out _ HGS.out).mono ?_); rintro e w4 ⟨rfl, hS, hO⟩; have HG4 := Lib.hid (HG.out.move hS hO); have HS4 := Lib.hid hS; clear hS hO)
                  | (go_at_call 51; (with_reducible refine (CR.out _ HS4.out).mono ?_); rintro e w5 ⟨rfl, q, rfl⟩; have HG5 := Lib.hid (HG4.out.drewN q); obtain ⟨-, s0, s1, -⟩ := HG4.out.1))
                have HGG : Hid (GS w w2.heap.size s K (glue v zero) w4) := Lib.hid (HG4.out.eqg (glue_zero fun i hi => (HV.out i).2.2 hi))
                have HVV : Hid (∀ j, 0 ≤ v j ∧ v j < 100000000 ∧ 0 ≤ zero j ∧ zero j < 100000000) := Lib.hid fun j => ⟨(HV.out j).1, (HV.out j).2.1, by simp [zero], by simp [zero]⟩
                have g0 : w4.cell? ⟨w2.heap.size, 0, none⟩ = some (.int .i64 (v 0)) := (HGG.out.2.1.2 0 (by omega)).1
                have g1 : w4.cell? ⟨w2.heap.size, 1, none⟩ = some (.int .i64 (v 1)) := (HGG.out.2.1.2 1 (by omega)).1
                have g2 : w4.cell? ⟨w2.heap.size, 2, none⟩ = some (.int .i64 (v 2)) := (HGG.out.2.1.2 2 (by omega)).1
                have g3 : w4.cell? ⟨w2.heap.size, 3, none⟩ = some (.int .i64 (v 3)) := (HGG.out.2.1.2 3 (by omega)).1
                have g4 : w4.cell? ⟨w2.heap.size, 4, none⟩ = some (.int .i64 (zero 0)) := (HGG.out.2.1.2 4 (by omega)).1
                have g5 : w4.cell? ⟨w2.heap.size, 5, none⟩ = some (.int .i64 (zero 1)) := (HGG.out.2.1.2 5 (by omega)).1
                have g6 : w4.cell? ⟨w2.heap.size, 6, none⟩ = some (.int .i64 (zero 2)) := (HGG.out.2.1.2 6 (by omega)).1
                obtain ⟨bl0, bh0, -, -⟩ := HVV.out 0
                obtain ⟨bl1, bh1, -, -⟩ := HVV.out 1
                obtain ⟨bl2, bh2, -, -⟩ := HVV.out 2
                obtain ⟨bl3, bh3, -, -⟩ := HVV.out 3
                obtain ⟨-, -, tl0, th0⟩ := HVV.out 0
                obtain ⟨-, -, tl1, th1⟩ := HVV.out 1
                obtain ⟨-, -, tl2, th2⟩ := HVV.out 2
                obtain ⟨-, q0, q1, q2, q3, q4, q5⟩ := HE3.out
                rw [HE2.out, HSG.out] at q0 q1 q2 q3 q4; rw [HE2.out] at q5
                have qe : R.err = 0 := by rw [← HE2.out]; exact HE3.out.1
                obtain ⟨a0, ha0⟩ : ∃ x, v 0 = x := ⟨_, rfl⟩; rw [ha0] at g0 bl0 bh0 q0; clear ha0
                obtain ⟨a1, ha1⟩ : ∃ x, v 1 = x := ⟨_, rfl⟩; rw [ha1] at g1 bl1 bh1 q1; clear ha1
                obtain ⟨a2, ha2⟩ : ∃ x, v 2 = x := ⟨_, rfl⟩; rw [ha2] at g2 bl2 bh2 q2; clear ha2
                obtain ⟨a3, ha3⟩ : ∃ x, v 3 = x := ⟨_, rfl⟩; rw [ha3] at g3 bl3 bh3 q3; clear ha3
                obtain ⟨x0, hx0⟩ : ∃ x, zero 0 = x := ⟨_, rfl⟩; rw [hx0] at g4 tl0 th0 q4; clear hx0
                obtain ⟨x1, hx1⟩ : ∃ x, zero 1 = x := ⟨_, rfl⟩; rw [hx1] at g5 tl1 th1 q4; clear hx1
                obtain ⟨x2, hx2⟩ : ∃ x, zero 2 = x := ⟨_, rfl⟩; rw [hx2] at g6 tl2 th2 q4; clear hx2
                have q4b : R.v 4 = 1 * (x0 * 3600 + x1 * 60 + x2) := by rw [q4, show (x0 * 60 + x1) * 60 + x2 = x0 * 3600 + x1 * 60 + x2 by omega]
                obtain ⟨A1, hA1⟩ : ∃ x, x0 * 3600 = x := ⟨_, rfl⟩; obtain ⟨A2, hA2⟩ : ∃ x, x1 * 60 = x := ⟨_, rfl⟩; obtain ⟨A3, hA3⟩ : ∃ x, A1 + A2 = x := ⟨_, rfl⟩; obtain ⟨A4, hA4⟩ : ∃ x, A3 + x2 = x := ⟨_, rfl⟩
                have w1 : IntKind.i64.wrap (x0 * 3600) = A1 := by rw [hA1]; exact IntWalk.i64_in _ (by omega)
                have w2_ : IntKind.i64.wrap (x1 * 60) = A2 := by rw [hA2]; exact IntWalk.i64_in _ (by omega)
                have w3 : IntKind.i64.wrap (A1 + A2) = A3 := by rw [hA3]; exact IntWalk.i64_in _ (by omega)
                have w4_ : IntKind.i64.wrap (A3 + x2) = A4 := by rw [hA4]; exact IntWalk.i64_in _ (by omega)
                rw [hA1, hA2, hA3, hA4] at q4b
                have hA5 : 0 ≤ A4 ∧ A4 ≤ 1000000000000 := by omega
                clear hA1 hA2 hA3 hA4 q4
                obtain ⟨b0, hb0⟩ : ∃ x, 1 * a0 = x := ⟨_, rfl⟩; have m0 : IntKind.i64.wrap (1 * a0) = b0 := (by rw [hb0]; exact IntWalk.i64_in _ (by omega)); have n0 : IntKind.i64.wrap (a0) = b0 := (by rw [show a0 = 1 * a0 by omega]; exact m0); rw [hb0] at q0; clear hb0
                obtain ⟨b1, hb1⟩ : ∃ x, 1 * a1 = x := ⟨_, rfl⟩; have m1 : IntKind.i64.wrap (1 * a1) = b1 := (by rw [hb1]; exact IntWalk.i64_in _ (by omega)); have n1 : IntKind.i64.wrap (a1) = b1 := (by rw [show a1 = 1 * a1 by omega]; exact m1); rw [hb1] at q1; clear hb1
                obtain ⟨b2, hb2⟩ : ∃ x, 1 * a2 = x := ⟨_, rfl⟩; have m2 : IntKind.i64.wrap (1 * a2) = b2 := (by rw [hb2]; exact IntWalk.i64_in _ (by omega)); have n2 : IntKind.i64.wrap (a2) = b2 := (by rw [show a2 = 1 * a2 by omega]; exact m2); rw [hb2] at q2; clear hb2
                obtain ⟨b3, hb3⟩ : ∃ x, 1 * a3 = x := ⟨_, rfl⟩; have m3 : IntKind.i64.wrap (1 * a3) = b3 := (by rw [hb3]; exact IntWalk.i64_in _ (by omega)); have n3 : IntKind.i64.wrap (a3) = b3 := (by rw [show a3 = 1 * a3 by omega]; exact m3); rw [hb3] at q3; clear hb3
                obtain ⟨b4, hb4⟩ : ∃ x, 1 * A4 = x := ⟨_, rfl⟩; have m4 : IntKind.i64.wrap (1 * A4) = b4 := (by rw [hb4]; exact IntWalk.i64_in _ (by omega)); have n4 : IntKind.i64.wrap (A4) = b4 := (by rw [show A4 = 1 * A4 by omega]; exact m4); rw [hb4] at q4b; clear hb4
                have HQ := Lib.hid (And.intro qe (And.intro q0 (And.intro q1 (And.intro q2 (And.intro q3 (And.intro q4b q5))))))
                clear qe q0 q1 q2 q3 q4b q5 bl0 bh0 bl1 bh1 bl2 bh2 bl3 bh3 tl0 th0 tl1 th1 tl2 th2 hA5
                have r0 := (HG4.out.2.2.1.2 0 (by omega)).1
                have rf0 := (HG4.out.2.2.1.2 0 (by omega)).2
                have r1 := (HG4.out.2.2.1.2 1 (by omega)).1
                have rf1 := (HG4.out.2.2.1.2 1 (by omega)).2
                have r2 := (HG4.out.2.2.1.2 2 (by omega)).1
                have rf2 := (HG4.out.2.2.1.2 2 (by omega)).2
                have r3 := (HG4.out.2.2.1.2 3 (by omega)).1
                have rf3 := (HG4.out.2.2.1.2 3 (by omega)).2
                have r4 := (HG4.out.2.2.1.2 4 (by omega)).1
                have rf4 := (HG4.out.2.2.1.2 4 (by omega)).2
                obtain ⟨e0v, e0⟩ := HG4.out.2.2.2.1.2.1
                obtain ⟨e1v, e1⟩ := HG4.out.2.2.2.1.2.2.1
                have ef0 := HG4.out.2.2.2.1.2.2.2.1
                have ef1 := HG4.out.2.2.2.1.2.2.2.2
                have hlb : w.heap.size < w4.heap.size := HG4.out.2.2.1.1
                have hlb1 : w.heap.size + 1 < w4.heap.size := HG4.out.2.2.2.1.1
                have hlb2 : w2.heap.size < w4.heap.size := HG4.out.2.1.1
                have CFI : Hid (∀ w0, Calls Tryz.prog 29 #[] w0 fun e w' => e = .returned (.agg #[.int .i64 0, .int .i64 (-1)]) ∧ Below w0.heap.size w0 w') := Lib.hid fine_any
                have y0 := cell_regrown (w := w4.drewN q) (show (w4.drewN q).cell? ⟨w2.heap.size, 0, none⟩ = some _ from g0)
                have y1 := cell_regrown (w := w4.drewN q) (show (w4.drewN q).cell? ⟨w2.heap.size, 1, none⟩ = some _ from g1)
                have y2 := cell_regrown (w := w4.drewN q) (show (w4.drewN q).cell? ⟨w2.heap.size, 2, none⟩ = some _ from g2)
                have y3 := cell_regrown (w := w4.drewN q) (show (w4.drewN q).cell? ⟨w2.heap.size, 3, none⟩ = some _ from g3)
                have y4 := cell_regrown (w := w4.drewN q) (show (w4.drewN q).cell? ⟨w2.heap.size, 4, none⟩ = some _ from g4)
                have y5 := cell_regrown (w := w4.drewN q) (show (w4.drewN q).cell? ⟨w2.heap.size, 5, none⟩ = some _ from g5)
                have y6 := cell_regrown (w := w4.drewN q) (show (w4.drewN q).cell? ⟨w2.heap.size, 6, none⟩ = some _ from g6)
                refine wp_region_below_tail 30 (by kernel_rfl) (by kernel_rfl) ?_
                simp only [List.take_succ_cons, List.take_zero, List.drop_succ_cons, List.drop_zero]
                repeat (go_big_quiet_step ((go_at_call 29; exact Calls.regrown_of (CFI.out _))))
                refine wpQuiet_nil ?_
                intro w7 hb7
                have R0 := (hb7.cell (p := ⟨w.heap.size, 0, none⟩) hlb).trans r0; have RF0 := (hb7.frozen (p := ⟨w.heap.size, 0, none⟩) hlb).trans rf0; have R1 := (hb7.cell (p := ⟨w.heap.size, 1, none⟩) hlb).trans r1; have RF1 := (hb7.frozen (p := ⟨w.heap.size, 1, none⟩) hlb).trans rf1; have R2 := (hb7.cell (p := ⟨w.heap.size, 2, none⟩) hlb).trans r2; have RF2 := (hb7.frozen (p := ⟨w.heap.size, 2, none⟩) hlb).trans rf2; have R3 := (hb7.cell (p := ⟨w.heap.size, 3, none⟩) hlb).trans r3; have RF3 := (hb7.frozen (p := ⟨w.heap.size, 3, none⟩) hlb).trans rf3; have R4 := (hb7.cell (p := ⟨w.heap.size, 4, none⟩) hlb).trans r4; have RF4 := (hb7.frozen (p := ⟨w.heap.size, 4, none⟩) hlb).trans rf4; have E0 := (hb7.cell (p := ⟨w.heap.size + 1, 0, none⟩) hlb1).trans e0; have EF0 := (hb7.frozen (p := ⟨w.heap.size + 1, 0, none⟩) hlb1).trans ef0; have E1 := (hb7.cell (p := ⟨w.heap.size + 1, 1, none⟩) hlb1).trans e1; have EF1 := (hb7.frozen (p := ⟨w.heap.size + 1, 1, none⟩) hlb1).trans ef1; have G0 := (hb7.cell (p := ⟨w2.heap.size, 0, none⟩) hlb2).trans g0; have G1 := (hb7.cell (p := ⟨w2.heap.size, 1, none⟩) hlb2).trans g1; have G2 := (hb7.cell (p := ⟨w2.heap.size, 2, none⟩) hlb2).trans g2; have G3 := (hb7.cell (p := ⟨w2.heap.size, 3, none⟩) hlb2).trans g3; have G4 := (hb7.cell (p := ⟨w2.heap.size, 4, none⟩) hlb2).trans g4; have G5 := (hb7.cell (p := ⟨w2.heap.size, 5, none⟩) hlb2).trans g5; have G6 := (hb7.cell (p := ⟨w2.heap.size, 6, none⟩) hlb2).trans g6; have HB7 := Lib.hid hb7; clear hb7
                go_wp2_with fail
                have HG7 := Lib.hid ((HG4.out.drewN q).call HB7.out)
                have hq := set7_is HG7.out.2.2.1 HG7.out.2.2.2.1 (.int .i64 (b0)) (.int .i64 (b1)) (.int .i64 (b2)) (.int .i64 (b3)) (.int .i64 (b4)) (.int .i64 0) (.int .i64 (-1))
                have hbw := set7_below HG7.out.2.2.2.2.1 (.int .i64 (b0)) (.int .i64 (b1)) (.int .i64 (b2)) (.int .i64 (b3)) (.int .i64 (b4)) (.int .i64 0) (.int .i64 (-1))
                unfold set7 at hq hbw
                exact bodyPost_ret (v := .tuple #[.agg #[.int .i64 (b0), .int .i64 (b1), .int .i64 (b2), .int .i64 (b3), .int .i64 (b4)], .agg #[.int .i64 0, .int .i64 (-1)]]) (by simp [results, Tryz.results36, go_sem, hq.1, hq.2.1, hq.2.2.1, hq.2.2.2.1, hq.2.2.2.2.1, hq.2.2.2.2.2.1, hq.2.2.2.2.2.2]) rfl ⟨by unfold agg5; rw [HQ.out.1, HQ.out.2.1, HQ.out.2.2.1, HQ.out.2.2.2.1, HQ.out.2.2.2.2.1, HQ.out.2.2.2.2.2.1, HQ.out.2.2.2.2.2.2], hbw⟩
          · have hd0 : (R0 == 0) = false := by simpa using hR0
            have hd0i : ((R0 : Int) == 0) = false := by simpa using hR0
            have hR1 : 0 < R0 := by omega
            clear hR0
            by_cases hR8 : 8 < R0
            · have HE2 : Hid (R = ⟨6, K, zero⟩) := Lib.hid (by rw [← HE.out, unitsF_many (by rw [HR2.out]; exact hR8)]; exact perT_err (by show (6 : Int) ≠ 0; decide))
              have hd8 : decide (8 < R0) = true := decide_eq_true hR8
              have hd8i : decide (8 < (R0 : Int)) = true := decide_eq_true (by omega)
              go_wp2_with (first
                | (go_at_call 23; (with_reducible refine (C84.out _ HGS.out).mono ?_); rintro e w4 ⟨rfl, hS, hO⟩; have HG4 := Lib.hid (HG.out.move hS hO); have HS4 := Lib.hid hS; clear hS hO)
                | (go_at_call 51; (with_reducible refine (CR.out _ HS4.out).mono ?_); rintro e w5 ⟨rfl, q, rfl⟩; have HG5 := Lib.hid (HG4.out.drewN q); obtain ⟨-, s0, s1, -⟩ := HG4.out.1))
              have r0 := (HG4.out.2.2.1.2 0 (by omega)).1
              have rf0 := (HG4.out.2.2.1.2 0 (by omega)).2
              have r1 := (HG4.out.2.2.1.2 1 (by omega)).1
              have rf1 := (HG4.out.2.2.1.2 1 (by omega)).2
              have r2 := (HG4.out.2.2.1.2 2 (by omega)).1
              have rf2 := (HG4.out.2.2.1.2 2 (by omega)).2
              have r3 := (HG4.out.2.2.1.2 3 (by omega)).1
              have rf3 := (HG4.out.2.2.1.2 3 (by omega)).2
              have r4 := (HG4.out.2.2.1.2 4 (by omega)).1
              have rf4 := (HG4.out.2.2.1.2 4 (by omega)).2
              obtain ⟨e0v, e0⟩ := HG4.out.2.2.2.1.2.1
              obtain ⟨e1v, e1⟩ := HG4.out.2.2.2.1.2.2.1
              have ef0 := HG4.out.2.2.2.1.2.2.2.1
              have ef1 := HG4.out.2.2.2.1.2.2.2.2
              go_region_with fail
              all_goals
                go_wp2_with fail
                have hq := set7_is (HG4.out.drewN (q + 1)).2.2.1 (HG4.out.drewN (q + 1)).2.2.2.1 (.int .i64 (0)) (.int .i64 (0)) (.int .i64 (0)) (.int .i64 (0)) (.int .i64 (0)) (.int .i64 6) (.int .i64 (K : Int))
                have hbw := set7_below (HG4.out.drewN (q + 1)).2.2.2.2.1 (.int .i64 (0)) (.int .i64 (0)) (.int .i64 (0)) (.int .i64 (0)) (.int .i64 (0)) (.int .i64 6) (.int .i64 (K : Int))
                unfold set7 at hq hbw
                exact bodyPost_ret (v := .tuple #[.agg #[.int .i64 (0), .int .i64 (0), .int .i64 (0), .int .i64 (0), .int .i64 (0)], .agg #[.int .i64 6, .int .i64 (K : Int)]]) (by simp [results, Tryz.results36, go_sem, hq.1, hq.2.1, hq.2.2.1, hq.2.2.2.1, hq.2.2.2.2.1, hq.2.2.2.2.2.1, hq.2.2.2.2.2.2]) rfl ⟨by rw [HE2.out]; rfl, hbw⟩
            · have hd8 : decide (8 < R0) = false := decide_eq_false hR8
              have hd8i : decide (8 < (R0 : Int)) = false := decide_eq_false (by omega)
              have CT : Hid (∀ w0, ScanAt (w.heap.size + 2) s K w0 → Calls Tryz.prog 49 #[.pointer (some ⟨w.heap.size + 2, 0, none⟩), .int .i64 (R0 : Int)] w0 (ScPost (w.heap.size + 2) s w0 (.tuple #[.int .i64 (num_ s K R0 : Nat), .bool true]) (K + R0 : Nat))) := Lib.hid fun w0 h => by
                have q := take_any (w.heap.size + 2) s K R0 R0 rfl w0 h hK hs (by omega)
                obtain ⟨q1, q2, q3⟩ := dg_yes (s := s) (k := K) (n := R0) (by rw [HR.out]; exact Nat.le_refl _)
                rw [q1, q2, q3] at q
                exact q
              have hx8 : num_ s K R0 < 10 ^ R0 := num_lt (by rw [HR.out]; exact Nat.le_refl _)
              have hx9 : 10 ^ R0 ≤ 100000000 := by have q : (10 : Nat) ^ R0 ≤ 10 ^ 8 := Nat.pow_le_pow_right (by omega) (by omega); simpa using q
              have HM : Hid (∀ K2, K + R0 = K2 → (∀ j, (hj : j < u.size) → u[j] ≠ nxt s K2) → R = ⟨5, K2, zero⟩) := Lib.hid fun K2 h1 h2 => by rw [← HE.out, miss HL.out HR2.out hR1 (by omega) h1 h2]; exact perT_err (by show (5 : Int) ≠ 0; decide)
              have HH : Hid (∀ K2 i, K + R0 = K2 → (hi : i < u.size) → u[i] = nxt s K2 → (∀ j, (hj : j < u.size) → j < i → u[j] ≠ nxt s K2) → K2 < s.size ∧ perT s.data.toList (unitsF s.data.toList ymwd f (nx + i + 1) (K2 + 1) (upd v (nx + i) (num_ s K R0 : Nat)) true) = R) := Lib.hid fun K2 i h1 h2 h3 h4 => by have q := hit (f := f) (v := v) (sb := sb) HL.out HR2.out hR1 (by omega) h1 h2 h3 h4; exact ⟨q.1, by rw [← q.2]; exact HE.out⟩
              obtain ⟨X, hX⟩ : ∃ X, num_ s K R0 = X := ⟨_, rfl⟩
              obtain ⟨K2, hK2⟩ : ∃ K2, K + R0 = K2 := ⟨_, rfl⟩
              rw [hX] at CT HH hx8
              rw [hK2] at CT hRs
              have HX8 : Hid (X < 100000000) := Lib.hid (Nat.lt_of_lt_of_le hx8 hx9)
              have HK2 := Lib.hid hK2
              clear hX hK2 hx8 hx9
              unfold ScPost at CT
              have hu10 : u.size ≤ 10 := by omega
              have HUS := Lib.hid hus; clear hus
              obtain ⟨c, hc⟩ : ∃ c, nxt s K2 = c := ⟨_, rfl⟩
              have HC := Lib.hid hc
              have CN : Hid (∀ w0, ScanAt (w.heap.size + 2) s K2 w0 → Calls Tryz.prog 48 #[.pointer (some ⟨w.heap.size + 2, 0, none⟩)] w0 fun e w' => e = .returned (.int .u8 (c.toNat : Int)) ∧ ∃ m, w' = w0.drewN m) := Lib.hid fun w0 h => hc ▸ next_any (w.heap.size + 2) s K2 w0 h
              clear hc
              go_wp2_with (first
                | (go_at_call 23; (with_reducible refine (C84.out _ HGS.out).mono ?_); rintro e w4 ⟨rfl, hS, hO⟩; have HG4 := Lib.hid (HG.out.move hS hO); have HS4 := Lib.hid hS; clear hS hO)
                | (go_at_call 51; (with_reducible refine (CR.out _ HS4.out).mono ?_); rintro e w5 ⟨rfl, q, rfl⟩; have HG5 := Lib.hid (HG4.out.drewN q); obtain ⟨-, s0, s1, -⟩ := HG4.out.1)
                | (go_at_call 49; (with_reducible refine (CT.out _ (HS4.out.drewN _)).mono ?_); rintro e w6 ⟨rfl, hS, hO⟩; have HG6 := Lib.hid (HG5.out.move hS hO); clear hS hO s0 s1))
              go_loopw [13] (fun ci wr => ∃ i : Nat, ci = .int .i64 (i : Int) ∧ i ≤ u.size ∧ Hid (∀ j, (hj : j < u.size) → j < i → u[j] ≠ c) ∧ Hid (GS w w2.heap.size s K2 v wr)) (fun ci _ => u.size - (intOf ci).toNat)
              case atStart => exact ⟨0, rfl, by omega, Lib.hid fun j _ h => absurd h (Nat.not_lt_zero j), HG6⟩
              case round =>
                clear HG6
                obtain ⟨i, rfl, hi, HN, HG6⟩ := hrel
                obtain ⟨wB, hwB⟩ : ∃ wB : World, wB = wr := ⟨_, rfl⟩
                subst hwB
                have CN2 : Hid (∀ m, Calls Tryz.prog 48 #[.pointer (some ⟨w.heap.size + 2, 0, none⟩)] (wB.drewN m) fun e w' => e = .returned (.int .u8 (c.toNat : Int)) ∧ ∃ q, w' = (wB.drewN m).drewN q) := Lib.hid fun m => CN.out _ (HG6.out.1.drewN m)
                by_cases hiu : i < u.size
                · have hd : decide (i < u.size) = true := decide_eq_true hiu
                  have hdi : decide ((i : Int) < (u.size : Int)) = true := decide_eq_true (by omega)
                  by_cases hci : u[i] = c
                  · obtain ⟨hlt, hE2⟩ := HH.out K2 i HK2.out hiu (by rw [HC.out]; exact hci) (by rw [HC.out]; exact HN.out)
                    have HE2 := Lib.hid hE2; clear hE2
                    have n1 : ((u[i].toNat : Int) != (c.toNat : Int)) = false := by rw [hci]; simp
                    have n2 : ((u[i].toNat : Int) == (c.toNat : Int)) = true := by rw [hci]; simp
                    have HCI := Lib.hid hci; clear hci
                    have nl1 : (i == u.size) = false := by simp; omega
                    have nl2 : ((i : Int) == (u.size : Int)) = false := by simp; omega
                    obtain ⟨J, hJ⟩ : ∃ J, 0 + (nx + i) = J := ⟨_, rfl⟩
                    have hJ7 : J < 7 := by have := HUS.out; omega
                    have j1 : 0 + (i : Int) + 4 - (u.size : Int) = (J : Int) := by have := HUS.out; omega
                    have j2 : (i : Int) + 4 - (u.size : Int) = (J : Int) := by have := HUS.out; omega
                    have HJ := Lib.hid hJ; clear hJ
                    have rJ := (HG6.out.2.1.2 J hJ7).1; have rJf := (HG6.out.2.1.2 J hJ7).2
                    have hne : w2.heap.size ≠ w.heap.size + 2 := by have := HG6.out.2.2.2.2.2; omega
                    obtain ⟨-, s0, s1, sf⟩ := HG6.out.1
                    have CL : Hid (∀ w0, Calls Tryz.prog 65 #[.int .i64 0] w0 fun e w' => e = .returned (.int .i64 4) ∧ w' = w0) := Lib.hid longer_A
                    go_wp2_with fail
                    go_quiet ((go_at_call 48; exact Calls.quiet_of (CN2.out _)))
                    go_wp2_with (go_at_call 65; (with_reducible refine (CL.out _).mono ?_); rintro e w7 ⟨rfl, rfl⟩)
                    go_roundw
                    case rel => exact .inl ⟨_, nx + i + 1, K2 + 1, f, upd v (nx + i) (X : Nat), true, rfl, rfl, rfl, by have := HUS.out; omega, by have := HUS.out; omega, by have := HUS.out; simp [ByteArray.size_extract]; omega, hlt, Lib.hid HL.out.next, HE2, Lib.hid (by have e := HJ.out; rw [Nat.zero_add] at e; subst e; exact ((HG6.out.drewN _).at _).put _ _), Lib.hid fun j => by have h := HV.out j; have := HUS.out; unfold upd; by_cases e : j = nx + i; (rw [if_pos e]; exact ⟨by omega, by have := HX8.out; omega, by omega⟩); (rw [if_neg e]; exact h)⟩
                    case measure => exact inMs_u (by simp [ByteArray.size_extract]; omega)
                  · have n1 : ((u[i].toNat : Int) != (c.toNat : Int)) = true := by have q := byte_eq u[i] c; simp only [bne, q]; simpa using hci
                    have n2 : ((u[i].toNat : Int) == (c.toNat : Int)) = false := by rw [byte_eq]; simpa using hci
                    have HN2 : Hid (∀ j, (hj : j < u.size) → j < i + 1 → u[j] ≠ c) := Lib.hid fun j hj h => by
                      by_cases e : j = i
                      · subst e; exact hci
                      · exact HN.out j hj (by omega)
                    clear hci
                    go_wp2_with fail
                    go_quiet ((go_at_call 48; exact Calls.quiet_of (CN2.out _)))
                    go_wp2_with fail
                    go_roundw
                    case rel => exact ⟨i + 1, by go_num, by omega, HN2, Lib.hid (HG6.out.drewN _)⟩
                    case measure => simp [intOf]; omega
                · obtain rfl : u.size = i := by omega
                  have hd : decide (u.size < u.size) = false := by simp
                  have hdi : decide ((u.size : Int) < (u.size : Int)) = false := by simp
                  have HE2 := Lib.hid (HM.out K2 HK2.out (fun j hj => by rw [HC.out]; exact HN.out j hj hj))
                  have CF : Hid (∀ w0, ScanAt (w.heap.size + 2) s K2 w0 → Calls Tryz.prog 26 #[.pointer (some ⟨w.heap.size + 2, 0, none⟩)] w0 fun e w' => e = .returned (.agg #[.int .i64 5, .int .i64 (K2 : Int)]) ∧ Below w0.heap.size w0 w') := Lib.hid fun w0 h => form_any (w.heap.size + 2) s K2 w0 h
                  go_wp2_with fail
                  go_quiet (fail)
                  have HGS6 := Lib.hid HG6.out.1
                  go_wp2_with (go_at_call 26; (with_reducible refine (CF.out _ (HGS6.out.drewN _)).mono ?_); rintro e wz ⟨rfl, hbz⟩; have HGz := Lib.hid ((HG6.out.drewN _).call hbz); clear hbz; have r0 := (HGz.out.2.2.1.2 0 (by omega)).1; have rf0 := (HGz.out.2.2.1.2 0 (by omega)).2; have r1 := (HGz.out.2.2.1.2 1 (by omega)).1; have rf1 := (HGz.out.2.2.1.2 1 (by omega)).2; have r2 := (HGz.out.2.2.1.2 2 (by omega)).1; have rf2 := (HGz.out.2.2.1.2 2 (by omega)).2; have r3 := (HGz.out.2.2.1.2 3 (by omega)).1; have rf3 := (HGz.out.2.2.1.2 3 (by omega)).2; have r4 := (HGz.out.2.2.1.2 4 (by omega)).1; have rf4 := (HGz.out.2.2.1.2 4 (by omega)).2; obtain ⟨e0v, e0⟩ := HGz.out.2.2.2.1.2.1; obtain ⟨e1v, e1⟩ := HGz.out.2.2.2.1.2.2.1; have ef0 := HGz.out.2.2.2.1.2.2.2.1; have ef1 := HGz.out.2.2.2.1.2.2.2.2)
                  have hq := set7_is HGz.out.2.2.1 HGz.out.2.2.2.1 (.int .i64 (0)) (.int .i64 (0)) (.int .i64 (0)) (.int .i64 (0)) (.int .i64 (0)) (.int .i64 5) (.int .i64 (K2 : Int))
                  have hbw := set7_below HGz.out.2.2.2.2.1 (.int .i64 (0)) (.int .i64 (0)) (.int .i64 (0)) (.int .i64 (0)) (.int .i64 (0)) (.int .i64 5) (.int .i64 (K2 : Int))
                  unfold set7 at hq hbw
                  exact bodyPost_ret (v := .tuple #[.agg #[.int .i64 (0), .int .i64 (0), .int .i64 (0), .int .i64 (0), .int .i64 (0)], .agg #[.int .i64 5, .int .i64 (K2 : Int)]]) (by simp [results, Tryz.results36, go_sem, hq.1, hq.2.1, hq.2.2.1, hq.2.2.2.1, hq.2.2.2.2.1, hq.2.2.2.2.2.1, hq.2.2.2.2.2.2]) rfl ⟨by rw [HE2.out]; rfl, hbw⟩
      · obtain ⟨f, rfl⟩ : ∃ q, f = q + 1 := ⟨f - 1, by omega⟩
        have CR : Hid (∀ w0, ScanAt (w.heap.size + 2) s K w0 → Calls Tryz.prog 51 #[.pointer (some ⟨w.heap.size + 2, 0, none⟩)] w0 fun e w' => e = .returned (.int .i64 (run_ s K : Nat)) ∧ ∃ q, w' = w0.drewN q) := Lib.hid fun w0 h => rrun_any (w.heap.size + 2) s K w0 h hK hs
        obtain ⟨R0, hR⟩ : ∃ R, run_ s K = R := ⟨_, rfl⟩
        have HR2 : Hid (runL s.data.toList K = R0) := Lib.hid hR
        have hRs := run_le s K hK
        rw [hR] at CR hRs
        have HR := Lib.hid hR
        clear hR
        have HGS := Lib.hid HG.out.1
        obtain ⟨w4, hw4⟩ : ∃ x : World, x = wA := ⟨_, rfl⟩
        subst hw4
        have HG4 := HG
        have HS4 := HGS
        by_cases hR0 : R0 = 0
        · have hRl : runL s.data.toList K = 0 := HR2.out.trans hR0
          subst hR0
          have HE2 : Hid (perZ s.data.toList v t sb K = R) := Lib.hid (by rw [← HE.out, unitsF_none hRl]; exact (finB_ok (x := ⟨K, t, sb, 0⟩) rfl).symm)
          clear hRl
          have CF : Hid (∀ w0, ScanAt (w.heap.size + 2) s K w0 → Calls Tryz.prog 26 #[.pointer (some ⟨w.heap.size + 2, 0, none⟩)] w0 fun e w' => e = .returned (.agg #[.int .i64 5, .int .i64 (K : Int)]) ∧ Below w0.heap.size w0 w') := Lib.hid fun w0 h => form_any (w.heap.size + 2) s K w0 h
          rcases sb with _ | _
          · have HE3 := Lib.hid (HE2.out.symm.trans (perZ_bad (.inl rfl)))
            go_wp2_with (first
              | (go_at_call 51; (with_reducible refine (CR.out _ HS4.out).mono ?_); rintro e w5 ⟨rfl, q, rfl⟩; have HG5 := Lib.hid (HG4.out.drewN q); obtain ⟨-, s0, s1, -⟩ := HG4.out.1)
              | (go_at_call 26; (with_reducible refine (CF.out _ (HS4.out.drewN _)).mono ?_); rintro e wz ⟨rfl, hbz⟩; have HGz := Lib.hid (HG5.out.call hbz); clear hbz s0 s1; have r0 := (HGz.out.2.2.1.2 0 (by omega)).1; have rf0 := (HGz.out.2.2.1.2 0 (by omega)).2; have r1 := (HGz.out.2.2.1.2 1 (by omega)).1; have rf1 := (HGz.out.2.2.1.2 1 (by omega)).2; have r2 := (HGz.out.2.2.1.2 2 (by omega)).1; have rf2 := (HGz.out.2.2.1.2 2 (by omega)).2; have r3 := (HGz.out.2.2.1.2 3 (by omega)).1; have rf3 := (HGz.out.2.2.1.2 3 (by omega)).2; have r4 := (HGz.out.2.2.1.2 4 (by omega)).1; have rf4 := (HGz.out.2.2.1.2 4 (by omega)).2; obtain ⟨e0v, e0⟩ := HGz.out.2.2.2.1.2.1; obtain ⟨e1v, e1⟩ := HGz.out.2.2.2.1.2.2.1; have ef0 := HGz.out.2.2.2.1.2.2.2.1; have ef1 := HGz.out.2.2.2.1.2.2.2.2))
            have hq := set7_is HGz.out.2.2.1 HGz.out.2.2.2.1 (.int .i64 (0)) (.int .i64 (0)) (.int .i64 (0)) (.int .i64 (0)) (.int .i64 (0)) (.int .i64 5) (.int .i64 (K : Int))
            have hbw := set7_below HGz.out.2.2.2.2.1 (.int .i64 (0)) (.int .i64 (0)) (.int .i64 (0)) (.int .i64 (0)) (.int .i64 (0)) (.int .i64 5) (.int .i64 (K : Int))
            unfold set7 at hq hbw
            exact bodyPost_ret (v := .tuple #[.agg #[.int .i64 (0), .int .i64 (0), .int .i64 (0), .int .i64 (0), .int .i64 (0)], .agg #[.int .i64 5, .int .i64 (K : Int)]]) (by simp [results, Tryz.results36, go_sem, hq.1, hq.2.1, hq.2.2.1, hq.2.2.2.1, hq.2.2.2.2.1, hq.2.2.2.2.2.1, hq.2.2.2.2.2.2]) rfl ⟨by rw [HE3.out]; rfl, hbw⟩
          · by_cases hlt : K < s.size
            · have HE3 := Lib.hid (HE2.out.symm.trans (perZ_bad (.inr hlt)))
              have hld : decide (K < s.size) = true := decide_eq_true hlt
              have hldi : decide ((K : Int) < (s.size : Int)) = true := decide_eq_true (by omega)
              go_wp2_with (first
                | (go_at_call 51; (with_reducible refine (CR.out _ HS4.out).mono ?_); rintro e w5 ⟨rfl, q, rfl⟩; have HG5 := Lib.hid (HG4.out.drewN q); obtain ⟨-, s0, s1, -⟩ := HG4.out.1)
                | (go_at_call 26; (with_reducible refine (CF.out _ (HS4.out.drewN _)).mono ?_); rintro e wz ⟨rfl, hbz⟩; have HGz := Lib.hid (HG5.out.call hbz); clear hbz s0 s1; have r0 := (HGz.out.2.2.1.2 0 (by omega)).1; have rf0 := (HGz.out.2.2.1.2 0 (by omega)).2; have r1 := (HGz.out.2.2.1.2 1 (by omega)).1; have rf1 := (HGz.out.2.2.1.2 1 (by omega)).2; have r2 := (HGz.out.2.2.1.2 2 (by omega)).1; have rf2 := (HGz.out.2.2.1.2 2 (by omega)).2; have r3 := (HGz.out.2.2.1.2 3 (by omega)).1; have rf3 := (HGz.out.2.2.1.2 3 (by omega)).2; have r4 := (HGz.out.2.2.1.2 4 (by omega)).1; have rf4 := (HGz.out.2.2.1.2 4 (by omega)).2; obtain ⟨e0v, e0⟩ := HGz.out.2.2.2.1.2.1; obtain ⟨e1v, e1⟩ := HGz.out.2.2.2.1.2.2.1; have ef0 := HGz.out.2.2.2.1.2.2.2.1; have ef1 := HGz.out.2.2.2.1.2.2.2.2))
              have hq := set7_is HGz.out.2.2.1 HGz.out.2.2.2.1 (.int .i64 (0)) (.int .i64 (0)) (.int .i64 (0)) (.int .i64 (0)) (.int .i64 (0)) (.int .i64 5) (.int .i64 (K : Int))
              have hbw := set7_below HGz.out.2.2.2.2.1 (.int .i64 (0)) (.int .i64 (0)) (.int .i64 (0)) (.int .i64 (0)) (.int .i64 (0)) (.int .i64 5) (.int .i64 (K : Int))
              unfold set7 at hq hbw
              exact bodyPost_ret (v := .tuple #[.agg #[.int .i64 (0), .int .i64 (0), .int .i64 (0), .int .i64 (0), .int .i64 (0)], .agg #[.int .i64 5, .int .i64 (K : Int)]]) (by simp [results, Tryz.results36, go_sem, hq.1, hq.2.1, hq.2.2.1, hq.2.2.2.1, hq.2.2.2.2.1, hq.2.2.2.2.2.1, hq.2.2.2.2.2.2]) rfl ⟨by rw [HE3.out]; rfl, hbw⟩
            · have HE3 := Lib.hid (perZ_ok (s := s) (v := v) (t := t) (b := true) (k := K) rfl hlt)
              have hld : decide (K < s.size) = false := decide_eq_false hlt
              have hldi : decide ((K : Int) < (s.size : Int)) = false := decide_eq_false (by omega)
              go_wp2_with (first
                | (go_at_call 51; (with_reducible refine (CR.out _ HS4.out).mono ?_); rintro e w5 ⟨rfl, q, rfl⟩; have HG5 := Lib.hid (HG4.out.drewN q); obtain ⟨-, s0, s1, -⟩ := HG4.out.1))
              have HGG := HG4; have HVV := HV
              have g0 : w4.cell? ⟨w2.heap.size, 0, none⟩ = some (.int .i64 (v 0)) := (HGG.out.2.1.2 0 (by omega)).1
              have g1 : w4.cell? ⟨w2.heap.size, 1, none⟩ = some (.int .i64 (v 1)) := (HGG.out.2.1.2 1 (by omega)).1
              have g2 : w4.cell? ⟨w2.heap.size, 2, none⟩ = some (.int .i64 (v 2)) := (HGG.out.2.1.2 2 (by omega)).1
              have g3 : w4.cell? ⟨w2.heap.size, 3, none⟩ = some (.int .i64 (v 3)) := (HGG.out.2.1.2 3 (by omega)).1
              have g4 : w4.cell? ⟨w2.heap.size, 4, none⟩ = some (.int .i64 (t 0)) := (HGG.out.2.1.2 4 (by omega)).1
              have g5 : w4.cell? ⟨w2.heap.size, 5, none⟩ = some (.int .i64 (t 1)) := (HGG.out.2.1.2 5 (by omega)).1
              have g6 : w4.cell? ⟨w2.heap.size, 6, none⟩ = some (.int .i64 (t 2)) := (HGG.out.2.1.2 6 (by omega)).1
              obtain ⟨bl0, bh0, -, -⟩ := HVV.out 0
              obtain ⟨bl1, bh1, -, -⟩ := HVV.out 1
              obtain ⟨bl2, bh2, -, -⟩ := HVV.out 2
              obtain ⟨bl3, bh3, -, -⟩ := HVV.out 3
              obtain ⟨-, -, tl0, th0⟩ := HVV.out 0
              obtain ⟨-, -, tl1, th1⟩ := HVV.out 1
              obtain ⟨-, -, tl2, th2⟩ := HVV.out 2
              obtain ⟨-, q0, q1, q2, q3, q4, q5⟩ := HE3.out
              rw [HE2.out, HSG.out] at q0 q1 q2 q3 q4; rw [HE2.out] at q5
              have qe : R.err = 0 := by rw [← HE2.out]; exact HE3.out.1
              obtain ⟨a0, ha0⟩ : ∃ x, v 0 = x := ⟨_, rfl⟩; rw [ha0] at g0 bl0 bh0 q0; clear ha0
              obtain ⟨a1, ha1⟩ : ∃ x, v 1 = x := ⟨_, rfl⟩; rw [ha1] at g1 bl1 bh1 q1; clear ha1
              obtain ⟨a2, ha2⟩ : ∃ x, v 2 = x := ⟨_, rfl⟩; rw [ha2] at g2 bl2 bh2 q2; clear ha2
              obtain ⟨a3, ha3⟩ : ∃ x, v 3 = x := ⟨_, rfl⟩; rw [ha3] at g3 bl3 bh3 q3; clear ha3
              obtain ⟨x0, hx0⟩ : ∃ x, t 0 = x := ⟨_, rfl⟩; rw [hx0] at g4 tl0 th0 q4; clear hx0
              obtain ⟨x1, hx1⟩ : ∃ x, t 1 = x := ⟨_, rfl⟩; rw [hx1] at g5 tl1 th1 q4; clear hx1
              obtain ⟨x2, hx2⟩ : ∃ x, t 2 = x := ⟨_, rfl⟩; rw [hx2] at g6 tl2 th2 q4; clear hx2
              have q4b : R.v 4 = 1 * (x0 * 3600 + x1 * 60 + x2) := by rw [q4, show (x0 * 60 + x1) * 60 + x2 = x0 * 3600 + x1 * 60 + x2 by omega]
              obtain ⟨A1, hA1⟩ : ∃ x, x0 * 3600 = x := ⟨_, rfl⟩; obtain ⟨A2, hA2⟩ : ∃ x, x1 * 60 = x := ⟨_, rfl⟩; obtain ⟨A3, hA3⟩ : ∃ x, A1 + A2 = x := ⟨_, rfl⟩; obtain ⟨A4, hA4⟩ : ∃ x, A3 + x2 = x := ⟨_, rfl⟩
              have w1 : IntKind.i64.wrap (x0 * 3600) = A1 := by rw [hA1]; exact IntWalk.i64_in _ (by omega)
              have w2_ : IntKind.i64.wrap (x1 * 60) = A2 := by rw [hA2]; exact IntWalk.i64_in _ (by omega)
              have w3 : IntKind.i64.wrap (A1 + A2) = A3 := by rw [hA3]; exact IntWalk.i64_in _ (by omega)
              have w4_ : IntKind.i64.wrap (A3 + x2) = A4 := by rw [hA4]; exact IntWalk.i64_in _ (by omega)
              rw [hA1, hA2, hA3, hA4] at q4b
              have hA5 : 0 ≤ A4 ∧ A4 ≤ 1000000000000 := by omega
              clear hA1 hA2 hA3 hA4 q4
              obtain ⟨b0, hb0⟩ : ∃ x, 1 * a0 = x := ⟨_, rfl⟩; have m0 : IntKind.i64.wrap (1 * a0) = b0 := (by rw [hb0]; exact IntWalk.i64_in _ (by omega)); have n0 : IntKind.i64.wrap (a0) = b0 := (by rw [show a0 = 1 * a0 by omega]; exact m0); rw [hb0] at q0; clear hb0
              obtain ⟨b1, hb1⟩ : ∃ x, 1 * a1 = x := ⟨_, rfl⟩; have m1 : IntKind.i64.wrap (1 * a1) = b1 := (by rw [hb1]; exact IntWalk.i64_in _ (by omega)); have n1 : IntKind.i64.wrap (a1) = b1 := (by rw [show a1 = 1 * a1 by omega]; exact m1); rw [hb1] at q1; clear hb1
              obtain ⟨b2, hb2⟩ : ∃ x, 1 * a2 = x := ⟨_, rfl⟩; have m2 : IntKind.i64.wrap (1 * a2) = b2 := (by rw [hb2]; exact IntWalk.i64_in _ (by omega)); have n2 : IntKind.i64.wrap (a2) = b2 := (by rw [show a2 = 1 * a2 by omega]; exact m2); rw [hb2] at q2; clear hb2
              obtain ⟨b3, hb3⟩ : ∃ x, 1 * a3 = x := ⟨_, rfl⟩; have m3 : IntKind.i64.wrap (1 * a3) = b3 := (by rw [hb3]; exact IntWalk.i64_in _ (by omega)); have n3 : IntKind.i64.wrap (a3) = b3 := (by rw [show a3 = 1 * a3 by omega]; exact m3); rw [hb3] at q3; clear hb3
              obtain ⟨b4, hb4⟩ : ∃ x, 1 * A4 = x := ⟨_, rfl⟩; have m4 : IntKind.i64.wrap (1 * A4) = b4 := (by rw [hb4]; exact IntWalk.i64_in _ (by omega)); have n4 : IntKind.i64.wrap (A4) = b4 := (by rw [show A4 = 1 * A4 by omega]; exact m4); rw [hb4] at q4b; clear hb4
              have HQ := Lib.hid (And.intro qe (And.intro q0 (And.intro q1 (And.intro q2 (And.intro q3 (And.intro q4b q5))))))
              clear qe q0 q1 q2 q3 q4b q5 bl0 bh0 bl1 bh1 bl2 bh2 bl3 bh3 tl0 th0 tl1 th1 tl2 th2 hA5
              have r0 := (HG4.out.2.2.1.2 0 (by omega)).1
              have rf0 := (HG4.out.2.2.1.2 0 (by omega)).2
              have r1 := (HG4.out.2.2.1.2 1 (by omega)).1
              have rf1 := (HG4.out.2.2.1.2 1 (by omega)).2
              have r2 := (HG4.out.2.2.1.2 2 (by omega)).1
              have rf2 := (HG4.out.2.2.1.2 2 (by omega)).2
              have r3 := (HG4.out.2.2.1.2 3 (by omega)).1
              have rf3 := (HG4.out.2.2.1.2 3 (by omega)).2
              have r4 := (HG4.out.2.2.1.2 4 (by omega)).1
              have rf4 := (HG4.out.2.2.1.2 4 (by omega)).2
              obtain ⟨e0v, e0⟩ := HG4.out.2.2.2.1.2.1
              obtain ⟨e1v, e1⟩ := HG4.out.2.2.2.1.2.2.1
              have ef0 := HG4.out.2.2.2.1.2.2.2.1
              have ef1 := HG4.out.2.2.2.1.2.2.2.2
              have hlb : w.heap.size < w4.heap.size := HG4.out.2.2.1.1
              have hlb1 : w.heap.size + 1 < w4.heap.size := HG4.out.2.2.2.1.1
              have hlb2 : w2.heap.size < w4.heap.size := HG4.out.2.1.1
              have CFI : Hid (∀ w0, Calls Tryz.prog 29 #[] w0 fun e w' => e = .returned (.agg #[.int .i64 0, .int .i64 (-1)]) ∧ Below w0.heap.size w0 w') := Lib.hid fine_any
              have y0 := cell_regrown (w := w4.drewN q) (show (w4.drewN q).cell? ⟨w2.heap.size, 0, none⟩ = some _ from g0)
              have y1 := cell_regrown (w := w4.drewN q) (show (w4.drewN q).cell? ⟨w2.heap.size, 1, none⟩ = some _ from g1)
              have y2 := cell_regrown (w := w4.drewN q) (show (w4.drewN q).cell? ⟨w2.heap.size, 2, none⟩ = some _ from g2)
              have y3 := cell_regrown (w := w4.drewN q) (show (w4.drewN q).cell? ⟨w2.heap.size, 3, none⟩ = some _ from g3)
              have y4 := cell_regrown (w := w4.drewN q) (show (w4.drewN q).cell? ⟨w2.heap.size, 4, none⟩ = some _ from g4)
              have y5 := cell_regrown (w := w4.drewN q) (show (w4.drewN q).cell? ⟨w2.heap.size, 5, none⟩ = some _ from g5)
              have y6 := cell_regrown (w := w4.drewN q) (show (w4.drewN q).cell? ⟨w2.heap.size, 6, none⟩ = some _ from g6)
              refine wp_region_below_tail 30 (by kernel_rfl) (by kernel_rfl) ?_
              simp only [List.take_succ_cons, List.take_zero, List.drop_succ_cons, List.drop_zero]
              repeat (go_big_quiet_step ((go_at_call 29; exact Calls.regrown_of (CFI.out _))))
              refine wpQuiet_nil ?_
              intro w7 hb7
              have R0 := (hb7.cell (p := ⟨w.heap.size, 0, none⟩) hlb).trans r0; have RF0 := (hb7.frozen (p := ⟨w.heap.size, 0, none⟩) hlb).trans rf0; have R1 := (hb7.cell (p := ⟨w.heap.size, 1, none⟩) hlb).trans r1; have RF1 := (hb7.frozen (p := ⟨w.heap.size, 1, none⟩) hlb).trans rf1; have R2 := (hb7.cell (p := ⟨w.heap.size, 2, none⟩) hlb).trans r2; have RF2 := (hb7.frozen (p := ⟨w.heap.size, 2, none⟩) hlb).trans rf2; have R3 := (hb7.cell (p := ⟨w.heap.size, 3, none⟩) hlb).trans r3; have RF3 := (hb7.frozen (p := ⟨w.heap.size, 3, none⟩) hlb).trans rf3; have R4 := (hb7.cell (p := ⟨w.heap.size, 4, none⟩) hlb).trans r4; have RF4 := (hb7.frozen (p := ⟨w.heap.size, 4, none⟩) hlb).trans rf4; have E0 := (hb7.cell (p := ⟨w.heap.size + 1, 0, none⟩) hlb1).trans e0; have EF0 := (hb7.frozen (p := ⟨w.heap.size + 1, 0, none⟩) hlb1).trans ef0; have E1 := (hb7.cell (p := ⟨w.heap.size + 1, 1, none⟩) hlb1).trans e1; have EF1 := (hb7.frozen (p := ⟨w.heap.size + 1, 1, none⟩) hlb1).trans ef1; have G0 := (hb7.cell (p := ⟨w2.heap.size, 0, none⟩) hlb2).trans g0; have G1 := (hb7.cell (p := ⟨w2.heap.size, 1, none⟩) hlb2).trans g1; have G2 := (hb7.cell (p := ⟨w2.heap.size, 2, none⟩) hlb2).trans g2; have G3 := (hb7.cell (p := ⟨w2.heap.size, 3, none⟩) hlb2).trans g3; have G4 := (hb7.cell (p := ⟨w2.heap.size, 4, none⟩) hlb2).trans g4; have G5 := (hb7.cell (p := ⟨w2.heap.size, 5, none⟩) hlb2).trans g5; have G6 := (hb7.cell (p := ⟨w2.heap.size, 6, none⟩) hlb2).trans g6; have HB7 := Lib.hid hb7; clear hb7
              go_wp2_with fail
              have HG7 := Lib.hid ((HG4.out.drewN q).call HB7.out)
              have hq := set7_is HG7.out.2.2.1 HG7.out.2.2.2.1 (.int .i64 (b0)) (.int .i64 (b1)) (.int .i64 (b2)) (.int .i64 (b3)) (.int .i64 (b4)) (.int .i64 0) (.int .i64 (-1))
              have hbw := set7_below HG7.out.2.2.2.2.1 (.int .i64 (b0)) (.int .i64 (b1)) (.int .i64 (b2)) (.int .i64 (b3)) (.int .i64 (b4)) (.int .i64 0) (.int .i64 (-1))
              unfold set7 at hq hbw
              exact bodyPost_ret (v := .tuple #[.agg #[.int .i64 (b0), .int .i64 (b1), .int .i64 (b2), .int .i64 (b3), .int .i64 (b4)], .agg #[.int .i64 0, .int .i64 (-1)]]) (by simp [results, Tryz.results36, go_sem, hq.1, hq.2.1, hq.2.2.1, hq.2.2.2.1, hq.2.2.2.2.1, hq.2.2.2.2.2.1, hq.2.2.2.2.2.2]) rfl ⟨by unfold agg5; rw [HQ.out.1, HQ.out.2.1, HQ.out.2.2.1, HQ.out.2.2.2.1, HQ.out.2.2.2.2.1, HQ.out.2.2.2.2.2.1, HQ.out.2.2.2.2.2.2], hbw⟩
        · have hd0 : (R0 == 0) = false := by simpa using hR0
          have hd0i : ((R0 : Int) == 0) = false := by simpa using hR0
          have hR1 : 0 < R0 := by omega
          clear hR0
          by_cases hR8 : 8 < R0
          · have HE2 : Hid (R = ⟨6, K, zero⟩) := Lib.hid (by rw [← HE.out, unitsF_many (by rw [HR2.out]; exact hR8)]; exact finB_err (by show (6 : Int) ≠ 0; decide))
            have hd8 : decide (8 < R0) = true := decide_eq_true hR8
            have hd8i : decide (8 < (R0 : Int)) = true := decide_eq_true (by omega)
            go_wp2_with (first
              | (go_at_call 51; (with_reducible refine (CR.out _ HS4.out).mono ?_); rintro e w5 ⟨rfl, q, rfl⟩; have HG5 := Lib.hid (HG4.out.drewN q); obtain ⟨-, s0, s1, -⟩ := HG4.out.1))
            have r0 := (HG4.out.2.2.1.2 0 (by omega)).1
            have rf0 := (HG4.out.2.2.1.2 0 (by omega)).2
            have r1 := (HG4.out.2.2.1.2 1 (by omega)).1
            have rf1 := (HG4.out.2.2.1.2 1 (by omega)).2
            have r2 := (HG4.out.2.2.1.2 2 (by omega)).1
            have rf2 := (HG4.out.2.2.1.2 2 (by omega)).2
            have r3 := (HG4.out.2.2.1.2 3 (by omega)).1
            have rf3 := (HG4.out.2.2.1.2 3 (by omega)).2
            have r4 := (HG4.out.2.2.1.2 4 (by omega)).1
            have rf4 := (HG4.out.2.2.1.2 4 (by omega)).2
            obtain ⟨e0v, e0⟩ := HG4.out.2.2.2.1.2.1
            obtain ⟨e1v, e1⟩ := HG4.out.2.2.2.1.2.2.1
            have ef0 := HG4.out.2.2.2.1.2.2.2.1
            have ef1 := HG4.out.2.2.2.1.2.2.2.2
            go_region_with fail
            all_goals
              go_wp2_with fail
              have hq := set7_is (HG4.out.drewN (q + 1)).2.2.1 (HG4.out.drewN (q + 1)).2.2.2.1 (.int .i64 (0)) (.int .i64 (0)) (.int .i64 (0)) (.int .i64 (0)) (.int .i64 (0)) (.int .i64 6) (.int .i64 (K : Int))
              have hbw := set7_below (HG4.out.drewN (q + 1)).2.2.2.2.1 (.int .i64 (0)) (.int .i64 (0)) (.int .i64 (0)) (.int .i64 (0)) (.int .i64 (0)) (.int .i64 6) (.int .i64 (K : Int))
              unfold set7 at hq hbw
              exact bodyPost_ret (v := .tuple #[.agg #[.int .i64 (0), .int .i64 (0), .int .i64 (0), .int .i64 (0), .int .i64 (0)], .agg #[.int .i64 6, .int .i64 (K : Int)]]) (by simp [results, Tryz.results36, go_sem, hq.1, hq.2.1, hq.2.2.1, hq.2.2.2.1, hq.2.2.2.2.1, hq.2.2.2.2.2.1, hq.2.2.2.2.2.2]) rfl ⟨by rw [HE2.out]; rfl, hbw⟩
          · have hd8 : decide (8 < R0) = false := decide_eq_false hR8
            have hd8i : decide (8 < (R0 : Int)) = false := decide_eq_false (by omega)
            have CT : Hid (∀ w0, ScanAt (w.heap.size + 2) s K w0 → Calls Tryz.prog 49 #[.pointer (some ⟨w.heap.size + 2, 0, none⟩), .int .i64 (R0 : Int)] w0 (ScPost (w.heap.size + 2) s w0 (.tuple #[.int .i64 (num_ s K R0 : Nat), .bool true]) (K + R0 : Nat))) := Lib.hid fun w0 h => by
              have q := take_any (w.heap.size + 2) s K R0 R0 rfl w0 h hK hs (by omega)
              obtain ⟨q1, q2, q3⟩ := dg_yes (s := s) (k := K) (n := R0) (by rw [HR.out]; exact Nat.le_refl _)
              rw [q1, q2, q3] at q
              exact q
            have hx8 : num_ s K R0 < 10 ^ R0 := num_lt (by rw [HR.out]; exact Nat.le_refl _)
            have hx9 : 10 ^ R0 ≤ 100000000 := by have q : (10 : Nat) ^ R0 ≤ 10 ^ 8 := Nat.pow_le_pow_right (by omega) (by omega); simpa using q
            have HM : Hid (∀ K2, K + R0 = K2 → (∀ j, (hj : j < u.size) → u[j] ≠ nxt s K2) → R = ⟨5, K2, zero⟩) := Lib.hid fun K2 h1 h2 => by rw [← HE.out, miss HL.out HR2.out hR1 (by omega) h1 h2]; exact finB_err (by show (5 : Int) ≠ 0; decide)
            have HH : Hid (∀ K2 i, K + R0 = K2 → (hi : i < u.size) → u[i] = nxt s K2 → (∀ j, (hj : j < u.size) → j < i → u[j] ≠ nxt s K2) → K2 < s.size ∧ finB s.data.toList v (unitsF s.data.toList hms f (nx + i + 1) (K2 + 1) (upd t (nx + i) (num_ s K R0 : Nat)) true) = R) := Lib.hid fun K2 i h1 h2 h3 h4 => by have q := hit (f := f) (v := t) (sb := sb) HL.out HR2.out hR1 (by omega) h1 h2 h3 h4; exact ⟨q.1, by rw [← q.2]; exact HE.out⟩
            obtain ⟨X, hX⟩ : ∃ X, num_ s K R0 = X := ⟨_, rfl⟩
            obtain ⟨K2, hK2⟩ : ∃ K2, K + R0 = K2 := ⟨_, rfl⟩
            rw [hX] at CT HH hx8
            rw [hK2] at CT hRs
            have HX8 : Hid (X < 100000000) := Lib.hid (Nat.lt_of_lt_of_le hx8 hx9)
            have HK2 := Lib.hid hK2
            clear hX hK2 hx8 hx9
            unfold ScPost at CT
            have hu10 : u.size ≤ 10 := by omega
            have HUS := Lib.hid hus; clear hus
            obtain ⟨c, hc⟩ : ∃ c, nxt s K2 = c := ⟨_, rfl⟩
            have HC := Lib.hid hc
            have CN : Hid (∀ w0, ScanAt (w.heap.size + 2) s K2 w0 → Calls Tryz.prog 48 #[.pointer (some ⟨w.heap.size + 2, 0, none⟩)] w0 fun e w' => e = .returned (.int .u8 (c.toNat : Int)) ∧ ∃ m, w' = w0.drewN m) := Lib.hid fun w0 h => hc ▸ next_any (w.heap.size + 2) s K2 w0 h
            clear hc
            go_wp2_with (first
              | (go_at_call 51; (with_reducible refine (CR.out _ HS4.out).mono ?_); rintro e w5 ⟨rfl, q, rfl⟩; have HG5 := Lib.hid (HG4.out.drewN q); obtain ⟨-, s0, s1, -⟩ := HG4.out.1)
              | (go_at_call 49; (with_reducible refine (CT.out _ (HS4.out.drewN _)).mono ?_); rintro e w6 ⟨rfl, hS, hO⟩; have HG6 := Lib.hid (HG5.out.move hS hO); clear hS hO s0 s1))
            go_loopw [13] (fun ci wr => ∃ i : Nat, ci = .int .i64 (i : Int) ∧ i ≤ u.size ∧ Hid (∀ j, (hj : j < u.size) → j < i → u[j] ≠ c) ∧ Hid (GS w w2.heap.size s K2 (glue v t) wr)) (fun ci _ => u.size - (intOf ci).toNat)
            case atStart => exact ⟨0, rfl, by omega, Lib.hid fun j _ h => absurd h (Nat.not_lt_zero j), HG6⟩
            case round =>
              clear HG6
              obtain ⟨i, rfl, hi, HN, HG6⟩ := hrel
              obtain ⟨wB, hwB⟩ : ∃ wB : World, wB = wr := ⟨_, rfl⟩
              subst hwB
              have CN2 : Hid (∀ m, Calls Tryz.prog 48 #[.pointer (some ⟨w.heap.size + 2, 0, none⟩)] (wB.drewN m) fun e w' => e = .returned (.int .u8 (c.toNat : Int)) ∧ ∃ q, w' = (wB.drewN m).drewN q) := Lib.hid fun m => CN.out _ (HG6.out.1.drewN m)
              by_cases hiu : i < u.size
              · have hd : decide (i < u.size) = true := decide_eq_true hiu
                have hdi : decide ((i : Int) < (u.size : Int)) = true := decide_eq_true (by omega)
                by_cases hci : u[i] = c
                · obtain ⟨hlt, hE2⟩ := HH.out K2 i HK2.out hiu (by rw [HC.out]; exact hci) (by rw [HC.out]; exact HN.out)
                  have HE2 := Lib.hid hE2; clear hE2
                  have n1 : ((u[i].toNat : Int) != (c.toNat : Int)) = false := by rw [hci]; simp
                  have n2 : ((u[i].toNat : Int) == (c.toNat : Int)) = true := by rw [hci]; simp
                  have HCI := Lib.hid hci; clear hci
                  have nl1 : (i == u.size) = false := by simp; omega
                  have nl2 : ((i : Int) == (u.size : Int)) = false := by simp; omega
                  obtain ⟨J, hJ⟩ : ∃ J, 4 + (nx + i) = J := ⟨_, rfl⟩
                  have hJ7 : J < 7 := by have := HUS.out; omega
                  have j1 : 4 + (i : Int) + 3 - (u.size : Int) = (J : Int) := by have := HUS.out; omega
                  have j2 : (4 : Int) + (i : Int) + 3 - (u.size : Int) = (J : Int) := by have := HUS.out; omega
                  have HJ := Lib.hid hJ; clear hJ
                  have rJ := (HG6.out.2.1.2 J hJ7).1; have rJf := (HG6.out.2.1.2 J hJ7).2
                  have hne : w2.heap.size ≠ w.heap.size + 2 := by have := HG6.out.2.2.2.2.2; omega
                  obtain ⟨-, s0, s1, sf⟩ := HG6.out.1
                  have CL : Hid (∀ w0, Calls Tryz.prog 65 #[.int .i64 4] w0 fun e w' => e = .returned (.int .i64 3) ∧ w' = w0) := Lib.hid longer_B
                  go_wp2_with fail
                  go_quiet ((go_at_call 48; exact Calls.quiet_of (CN2.out _)))
                  go_wp2_with (go_at_call 65; (with_reducible refine (CL.out _).mono ?_); rintro e w7 ⟨rfl, rfl⟩)
                  go_roundw
                  case rel => exact .inr ⟨_, nx + i + 1, K2 + 1, f, v, upd t (nx + i) (X : Nat), true, rfl, rfl, rfl, by have := HUS.out; omega, by have := HUS.out; omega, by have := HUS.out; simp [ByteArray.size_extract]; omega, hlt, Lib.hid HL.out.next, HE2, Lib.hid (by have e := HJ.out; subst e; exact (((HG6.out.drewN _).at _).put _ _).eqg (upd_glue _ _ _ _)), Lib.hid fun j => by have h := HV.out j; unfold upd; by_cases e : j = nx + i; (rw [if_pos e]; exact ⟨h.1, h.2.1, by omega, by have := HX8.out; omega⟩); (rw [if_neg e]; exact h)⟩
                  case measure => exact inMs_u (by simp [ByteArray.size_extract]; omega)
                · have n1 : ((u[i].toNat : Int) != (c.toNat : Int)) = true := by have q := byte_eq u[i] c; simp only [bne, q]; simpa using hci
                  have n2 : ((u[i].toNat : Int) == (c.toNat : Int)) = false := by rw [byte_eq]; simpa using hci
                  have HN2 : Hid (∀ j, (hj : j < u.size) → j < i + 1 → u[j] ≠ c) := Lib.hid fun j hj h => by
                    by_cases e : j = i
                    · subst e; exact hci
                    · exact HN.out j hj (by omega)
                  clear hci
                  go_wp2_with fail
                  go_quiet ((go_at_call 48; exact Calls.quiet_of (CN2.out _)))
                  go_wp2_with fail
                  go_roundw
                  case rel => exact ⟨i + 1, by go_num, by omega, HN2, Lib.hid (HG6.out.drewN _)⟩
                  case measure => simp [intOf]; omega
              · obtain rfl : u.size = i := by omega
                have hd : decide (u.size < u.size) = false := by simp
                have hdi : decide ((u.size : Int) < (u.size : Int)) = false := by simp
                have HE2 := Lib.hid (HM.out K2 HK2.out (fun j hj => by rw [HC.out]; exact HN.out j hj hj))
                have CF : Hid (∀ w0, ScanAt (w.heap.size + 2) s K2 w0 → Calls Tryz.prog 26 #[.pointer (some ⟨w.heap.size + 2, 0, none⟩)] w0 fun e w' => e = .returned (.agg #[.int .i64 5, .int .i64 (K2 : Int)]) ∧ Below w0.heap.size w0 w') := Lib.hid fun w0 h => form_any (w.heap.size + 2) s K2 w0 h
                go_wp2_with fail
                go_quiet (fail)
                have HGS6 := Lib.hid HG6.out.1
                go_wp2_with (go_at_call 26; (with_reducible refine (CF.out _ (HGS6.out.drewN _)).mono ?_); rintro e wz ⟨rfl, hbz⟩; have HGz := Lib.hid ((HG6.out.drewN _).call hbz); clear hbz; have r0 := (HGz.out.2.2.1.2 0 (by omega)).1; have rf0 := (HGz.out.2.2.1.2 0 (by omega)).2; have r1 := (HGz.out.2.2.1.2 1 (by omega)).1; have rf1 := (HGz.out.2.2.1.2 1 (by omega)).2; have r2 := (HGz.out.2.2.1.2 2 (by omega)).1; have rf2 := (HGz.out.2.2.1.2 2 (by omega)).2; have r3 := (HGz.out.2.2.1.2 3 (by omega)).1; have rf3 := (HGz.out.2.2.1.2 3 (by omega)).2; have r4 := (HGz.out.2.2.1.2 4 (by omega)).1; have rf4 := (HGz.out.2.2.1.2 4 (by omega)).2; obtain ⟨e0v, e0⟩ := HGz.out.2.2.2.1.2.1; obtain ⟨e1v, e1⟩ := HGz.out.2.2.2.1.2.2.1; have ef0 := HGz.out.2.2.2.1.2.2.2.1; have ef1 := HGz.out.2.2.2.1.2.2.2.2)
                have hq := set7_is HGz.out.2.2.1 HGz.out.2.2.2.1 (.int .i64 (0)) (.int .i64 (0)) (.int .i64 (0)) (.int .i64 (0)) (.int .i64 (0)) (.int .i64 5) (.int .i64 (K2 : Int))
                have hbw := set7_below HGz.out.2.2.2.2.1 (.int .i64 (0)) (.int .i64 (0)) (.int .i64 (0)) (.int .i64 (0)) (.int .i64 (0)) (.int .i64 5) (.int .i64 (K2 : Int))
                unfold set7 at hq hbw
                exact bodyPost_ret (v := .tuple #[.agg #[.int .i64 (0), .int .i64 (0), .int .i64 (0), .int .i64 (0), .int .i64 (0)], .agg #[.int .i64 5, .int .i64 (K2 : Int)]]) (by simp [results, Tryz.results36, go_sem, hq.1, hq.2.1, hq.2.2.1, hq.2.2.2.1, hq.2.2.2.2.1, hq.2.2.2.2.2.1, hq.2.2.2.2.2.2]) rfl ⟨by rw [HE2.out]; rfl, hbw⟩
set_option maxRecDepth 100000 in
set_option maxHeartbeats 16000000 in
theorem rparse_yes (s : ByteArray) (w : World) (hs : s.size ≤ 9223372036854775807) (hB : isB s 0 45 = true) :
    Calls Tryz.prog 36 #[.string s] w (PerR (perF s.data.toList) w) := by
  obtain ⟨hsg, hsk⟩ := sg_yes hB
  have C45 : Hid (∀ w0, ScanAt (w.heap.size + 2) s 0 w0 → Calls Tryz.prog 23 #[.pointer (some ⟨w.heap.size + 2, 0, none⟩), .int .u8 45] w0 fun e w' => e = .returned (.bool true) ∧ ScanAt (w.heap.size + 2) s 1 w' ∧ Only (w.heap.size + 2) w0 w') := Lib.hid fun w0 h => by
    have q := ris_any (w.heap.size + 2) s 0 45 w0 h (by omega)
    rw [hB, isK_yes hB] at q
    exact q
  have HW2 : Hid (ScanAt (w.heap.size + 2) s 0 (((w.alloc (.cells #[.int .i64 0, .int .i64 0, .int .i64 0, .int .i64 0, .int .i64 0] 43)).alloc (.cells #[.int .i64 0, .int .i64 0] 29)).alloc (.cells #[.string s, .int .i64 0] 56)) ∧ Five w.heap.size zero (((w.alloc (.cells #[.int .i64 0, .int .i64 0, .int .i64 0, .int .i64 0, .int .i64 0] 43)).alloc (.cells #[.int .i64 0, .int .i64 0] 29)).alloc (.cells #[.string s, .int .i64 0] 56)) ∧ Bad2 (w.heap.size + 1) (((w.alloc (.cells #[.int .i64 0, .int .i64 0, .int .i64 0, .int .i64 0, .int .i64 0] 43)).alloc (.cells #[.int .i64 0, .int .i64 0] 29)).alloc (.cells #[.string s, .int .i64 0] 56)) ∧ Below w.heap.size w (((w.alloc (.cells #[.int .i64 0, .int .i64 0, .int .i64 0, .int .i64 0, .int .i64 0] 43)).alloc (.cells #[.int .i64 0, .int .i64 0] 29)).alloc (.cells #[.string s, .int .i64 0] 56))) := Lib.hid (by
    have q := ScanAt.new ((w.alloc (.cells #[.int .i64 0, .int .i64 0, .int .i64 0, .int .i64 0, .int .i64 0] 43)).alloc (.cells #[.int .i64 0, .int .i64 0] 29)) s 0 56
    rw [World.size_alloc, World.size_alloc] at q
    have q2 := Bad2.new (w.alloc (.cells #[.int .i64 0, .int .i64 0, .int .i64 0, .int .i64 0, .int .i64 0] 43)) 29
    rw [World.size_alloc] at q2
    refine ⟨q, (Five.new w _).call (((Below.refl _ _).alloc (Nat.le_refl _) _).alloc (by simp) _), q2.kept (by simp) fun i => ?_, (((Below.refl _ _).alloc (Nat.le_refl _) _).alloc (by simp) _).alloc (by simp; omega) _⟩
    exact ⟨World.cell?_alloc_lt _ _ ⟨w.heap.size + 1, i, none⟩ (by simp), World.frozen?_alloc_old _ _ ⟨w.heap.size + 1, i, none⟩ (by simp)⟩)
  have HSG := Lib.hid hsg
  have HSK := Lib.hid hsk
  have hk1 : 1 ≤ s.size := by have := isK_le (s := s) (k := 0) (c := 45) (by omega); rw [isK_yes hB] at this; exact this
  clear hB hsg hsk
  rcases hP : isB s 1 80 with _ | _
  · have C80 : Hid (∀ w0, ScanAt (w.heap.size + 2) s 1 w0 → Calls Tryz.prog 23 #[.pointer (some ⟨w.heap.size + 2, 0, none⟩), .int .u8 80] w0 fun e w' => e = .returned (.bool false) ∧ ScanAt (w.heap.size + 2) s 1 w' ∧ Only (w.heap.size + 2) w0 w') := Lib.hid fun w0 h => by
      have q := ris_any (w.heap.size + 2) s 1 80 w0 h (by omega)
      rw [hP, isK_no hP] at q
      exact q
    have HE : Hid (perF s.data.toList = ⟨5, (1 : Nat), zero⟩) := Lib.hid (perF_no HSK.out hP)
    clear hP hk1
    have CF : Hid (∀ w0, ScanAt (w.heap.size + 2) s 1 w0 → Calls Tryz.prog 26 #[.pointer (some ⟨w.heap.size + 2, 0, none⟩)] w0 fun e w' => e = .returned (.agg #[.int .i64 5, .int .i64 1]) ∧ Below w0.heap.size w0 w') := Lib.hid fun w0 h => form_any (w.heap.size + 2) s 1 w0 h
    go_enter Tryz.func36, Tryz.ntmps36
    go_wp2_with (first
      | (go_at_call 23; (with_reducible refine (C45.out _ HW2.out.1).mono ?_); rintro e w1 ⟨rfl, hS, hO⟩; have HS1 := Lib.hid hS; have HF1 := Lib.hid (HW2.out.2.1.only hO (by omega)); have HX1 := Lib.hid (HW2.out.2.2.1.kept hO.1.size fun i => ⟨hO.cell (p := ⟨w.heap.size + 1, i, none⟩) HW2.out.2.2.1.1 (by show w.heap.size + 1 ≠ _; omega), hO.frozen (p := ⟨w.heap.size + 1, i, none⟩) HW2.out.2.2.1.1 (by show w.heap.size + 1 ≠ _; omega)⟩); have HO1 := Lib.hid (hO.new HW2.out.2.2.2 (by omega)); have HL1 := Lib.hid hS.1; clear hS hO)
      | (go_at_call 23; (with_reducible refine (C80.out _ HS1.out).mono ?_); rintro e w2 ⟨rfl, hS, hO⟩; have HG2 : Hid (∀ w3, Below w2.heap.size w2 w3 → ScanAt (w.heap.size + 2) s 1 w3 ∧ Five w.heap.size zero w3 ∧ Bad2 (w.heap.size + 1) w3 ∧ Below w.heap.size w w3) := Lib.hid fun w3 hb => ⟨hS.call hb, (HF1.out.only hO (by omega)).call hb, (HX1.out.kept hO.1.size fun i => ⟨hO.cell (p := ⟨w.heap.size + 1, i, none⟩) HX1.out.1 (by show w.heap.size + 1 ≠ _; omega), hO.frozen (p := ⟨w.heap.size + 1, i, none⟩) HX1.out.1 (by show w.heap.size + 1 ≠ _; omega)⟩).kept hb.size fun i => ⟨hb.cell (p := ⟨w.heap.size + 1, i, none⟩) (Nat.lt_of_lt_of_le HX1.out.1 hO.1.size), hb.frozen (p := ⟨w.heap.size + 1, i, none⟩) (Nat.lt_of_lt_of_le HX1.out.1 hO.1.size)⟩, thenB (hO.new HO1.out (by omega)) hb⟩; have HL2 := Lib.hid hS.1; have HS2 := Lib.hid hS; clear hS hO)
      | (go_at_call 26; (with_reducible refine (CF.out _ HS2.out).mono ?_); rintro e wz ⟨rfl, hbz⟩; have HGz := Lib.hid (HG2.out _ hbz); clear hbz; have r0 := (HGz.out.2.1.2 0 (by omega)).1; have rf0 := (HGz.out.2.1.2 0 (by omega)).2; have r1 := (HGz.out.2.1.2 1 (by omega)).1; have rf1 := (HGz.out.2.1.2 1 (by omega)).2; have r2 := (HGz.out.2.1.2 2 (by omega)).1; have rf2 := (HGz.out.2.1.2 2 (by omega)).2; have r3 := (HGz.out.2.1.2 3 (by omega)).1; have rf3 := (HGz.out.2.1.2 3 (by omega)).2; have r4 := (HGz.out.2.1.2 4 (by omega)).1; have rf4 := (HGz.out.2.1.2 4 (by omega)).2; obtain ⟨e0v, e0⟩ := HGz.out.2.2.1.2.1; obtain ⟨e1v, e1⟩ := HGz.out.2.2.1.2.2.1; have ef0 := HGz.out.2.2.1.2.2.2.1; have ef1 := HGz.out.2.2.1.2.2.2.2))
    have hq := set7_is HGz.out.2.1 HGz.out.2.2.1 (.int .i64 0) (.int .i64 0) (.int .i64 0) (.int .i64 0) (.int .i64 0) (.int .i64 5) (.int .i64 1)
    have hbw := set7_below HGz.out.2.2.2 (.int .i64 0) (.int .i64 0) (.int .i64 0) (.int .i64 0) (.int .i64 0) (.int .i64 5) (.int .i64 1)
    unfold set7 at hq hbw
    exact bodyPost_ret (v := .tuple #[.agg #[.int .i64 0, .int .i64 0, .int .i64 0, .int .i64 0, .int .i64 0], .agg #[.int .i64 5, .int .i64 1]]) (by simp [results, Tryz.results36, go_sem, hq.1, hq.2.1, hq.2.2.1, hq.2.2.2.1, hq.2.2.2.2.1, hq.2.2.2.2.2.1, hq.2.2.2.2.2.2]) rfl ⟨by rw [HE.out]; rfl, hbw⟩
  · have C80 : Hid (∀ w0, ScanAt (w.heap.size + 2) s 1 w0 → Calls Tryz.prog 23 #[.pointer (some ⟨w.heap.size + 2, 0, none⟩), .int .u8 80] w0 fun e w' => e = .returned (.bool true) ∧ ScanAt (w.heap.size + 2) s (1 + 1) w' ∧ Only (w.heap.size + 2) w0 w') := Lib.hid fun w0 h => by
      have q := ris_any (w.heap.size + 2) s 1 80 w0 h (by omega)
      rw [hP, isK_yes hP] at q
      exact q
    have hkl : 1 + 1 ≤ s.size := isB_lt hP
    have HE : Hid (perT s.data.toList (unitsF s.data.toList ymwd 5 0 (1 + 1) zero false) = perF s.data.toList) := Lib.hid (perF_yes HSK.out hP).symm
    obtain ⟨R, hR⟩ : ∃ R, perF s.data.toList = R := ⟨_, rfl⟩
    rw [hR] at HE ⊢
    clear hP hk1 hR
    go_enter Tryz.func36, Tryz.ntmps36
    go_wp2_with (first
      | (go_at_call 23; (with_reducible refine (C45.out _ HW2.out.1).mono ?_); rintro e w1 ⟨rfl, hS, hO⟩; have HS1 := Lib.hid hS; have HF1 := Lib.hid (HW2.out.2.1.only hO (by omega)); have HX1 := Lib.hid (HW2.out.2.2.1.kept hO.1.size fun i => ⟨hO.cell (p := ⟨w.heap.size + 1, i, none⟩) HW2.out.2.2.1.1 (by show w.heap.size + 1 ≠ _; omega), hO.frozen (p := ⟨w.heap.size + 1, i, none⟩) HW2.out.2.2.1.1 (by show w.heap.size + 1 ≠ _; omega)⟩); have HO1 := Lib.hid (hO.new HW2.out.2.2.2 (by omega)); have HL1 := Lib.hid hS.1; clear hS hO)
      | (go_at_call 23; (with_reducible refine (C80.out _ HS1.out).mono ?_); rintro e w2 ⟨rfl, hS, hO⟩; have HG2 : Hid (∀ w3, Below w2.heap.size w2 w3 → ScanAt (w.heap.size + 2) s (1 + 1) w3 ∧ Five w.heap.size zero w3 ∧ Bad2 (w.heap.size + 1) w3 ∧ Below w.heap.size w w3) := Lib.hid fun w3 hb => ⟨hS.call hb, (HF1.out.only hO (by omega)).call hb, (HX1.out.kept hO.1.size fun i => ⟨hO.cell (p := ⟨w.heap.size + 1, i, none⟩) HX1.out.1 (by show w.heap.size + 1 ≠ _; omega), hO.frozen (p := ⟨w.heap.size + 1, i, none⟩) HX1.out.1 (by show w.heap.size + 1 ≠ _; omega)⟩).kept hb.size fun i => ⟨hb.cell (p := ⟨w.heap.size + 1, i, none⟩) (Nat.lt_of_lt_of_le HX1.out.1 hO.1.size), hb.frozen (p := ⟨w.heap.size + 1, i, none⟩) (Nat.lt_of_lt_of_le HX1.out.1 hO.1.size)⟩, thenB (hO.new HO1.out (by omega)) hb⟩; have HL2 := Lib.hid hS.1; have HS2 := Lib.hid hS; clear hS hO))
    have HG3 : Hid (GS w w2.heap.size s (1 + 1) zero (w2.alloc (.cells #[.int .i64 0, .int .i64 0, .int .i64 0, .int .i64 0, .int .i64 0, .int .i64 0, .int .i64 0] 127))) := Lib.hid (by
      have q := HG2.out _ ((Below.refl _ _).alloc (Nat.le_refl _) (.cells #[.int .i64 0, .int .i64 0, .int .i64 0, .int .i64 0, .int .i64 0, .int .i64 0, .int .i64 0] 127))
      exact ⟨q.1, Row7.new w2 _, q.2.1, q.2.2.1, q.2.2.2, HL2.out⟩)
    have HLA : Hid (Left ymwd ⟨#[89, 77, 87, 68]⟩ 0) := Lib.hid ⟨rfl, by decide⟩
    have HLB : Hid (Left hms ⟨#[72, 77, 83]⟩ 0) := Lib.hid ⟨rfl, by decide⟩
    clear HG2 HL2
    go_loopw [6, 8, 9] (fun us bs sm wr => InRel w w2.heap.size s R us bs sm wr) (fun us bs _ _ => inMs us bs)
    case atStart => exact .inl ⟨_, 0, 1 + 1, 5, zero, false, rfl, rfl, rfl, by omega, by omega, rfl, hkl, HLA, HE, HG3, Lib.hid fun j => by simp [zero]⟩
    case round =>
      clear HE HG3 HLA
      obtain ⟨wA, hwA⟩ : ∃ wA : World, wA = wr := ⟨_, rfl⟩
      subst hwA
      rcases hrel with ⟨u, nx, K, f, v, sb, rfl, rfl, rfl, hnx, hf, hus, hK, HL, HE, HG, HV⟩ | ⟨u, nx, K, f, v, t, sb, rfl, rfl, rfl, hnx, hf, hus, hK, HL, HE, HG, HV⟩
      · obtain ⟨f, rfl⟩ : ∃ q, f = q + 1 := ⟨f - 1, by omega⟩
        have CR : Hid (∀ w0, ScanAt (w.heap.size + 2) s K w0 → Calls Tryz.prog 51 #[.pointer (some ⟨w.heap.size + 2, 0, none⟩)] w0 fun e w' => e = .returned (.int .i64 (run_ s K : Nat)) ∧ ∃ q, w' = w0.drewN q) := Lib.hid fun w0 h => rrun_any (w.heap.size + 2) s K w0 h hK hs
        obtain ⟨R0, hR⟩ : ∃ R, run_ s K = R := ⟨_, rfl⟩
        have HR2 : Hid (runL s.data.toList K = R0) := Lib.hid hR
        have hRs := run_le s K hK
        rw [hR] at CR hRs
        have HR := Lib.hid hR
        clear hR
        have HGS := Lib.hid HG.out.1
        rcases hT : isB s K 84 with _ | _
        rotate_left
        · have C84 : Hid (∀ w0, ScanAt (w.heap.size + 2) s K w0 → Calls Tryz.prog 23 #[.pointer (some ⟨w.heap.size + 2, 0, none⟩), .int .u8 84] w0 fun e w' => e = .returned (.bool true) ∧ ScanAt (w.heap.size + 2) s ((K : Int) + 1) w' ∧ Only (w.heap.size + 2) w0 w') := Lib.hid fun w0 h => by
            have q := ris_any (w.heap.size + 2) s K 84 w0 h (by omega)
            rw [hT, isK_yes hT] at q
            exact q
          have hR0 : runL s.data.toList K = 0 := by
            have h1 := isB_lt hT
            have h2 := isB_iff.1 hT
            rw [List.getElem?_eq_getElem (by rw [lenT]; exact h1)] at h2
            exact runL_no (by rw [lenT]; exact h1) (by rw [Option.some.inj h2]; decide)
          have HE2 : Hid (finB s.data.toList v (unitsF s.data.toList hms 4 0 (K + 1) zero false) = R) := Lib.hid (by rw [← HE.out, unitsF_none hR0]; exact (perT_yes (u := ⟨K, v, sb, 0⟩) rfl hT rfl).symm)
          have hKT : K + 1 ≤ s.size := isB_lt hT
          clear hT hR0 hRs
          go_wp2_with (go_at_call 23; (with_reducible refine (C84.out _ HGS.out).mono ?_); rintro e w4 ⟨rfl, hS, hO⟩; have HG4 := Lib.hid (HG.out.move hS hO); clear hS hO)
          go_roundw
          case rel => exact .inr ⟨_, 0, K + 1, 4, v, zero, false, rfl, rfl, rfl, by omega, by omega, rfl, hKT, HLB, HE2, Lib.hid (HG4.out.eqg (glue_zero fun i hi => (HV.out i).2.2 hi)), Lib.hid fun j => ⟨(HV.out j).1, (HV.out j).2.1, by simp [zero], by simp [zero]⟩⟩
          case measure => exact inMs_T
        · have C84 : Hid (∀ w0, ScanAt (w.heap.size + 2) s K w0 → Calls Tryz.prog 23 #[.pointer (some ⟨w.heap.size + 2, 0, none⟩), .int .u8 84] w0 fun e w' => e = .returned (.bool false) ∧ ScanAt (w.heap.size + 2) s K w' ∧ Only (w.heap.size + 2) w0 w') := Lib.hid fun w0 h => by
            have q := ris_any (w.heap.size + 2) s K 84 w0 h (by omega)
            rw [hT, isK_no hT] at q
            exact q
          have HT := Lib.hid hT
          clear hT
          by_cases hR0 : R0 = 0
          · have hRl : runL s.data.toList K = 0 := HR2.out.trans hR0
            subst hR0
            have HE2 : Hid (perZ s.data.toList v zero sb K = R) := Lib.hid (by rw [← HE.out, unitsF_none hRl]; exact (perT_no (u := ⟨K, v, sb, 0⟩) rfl HT.out).symm)
            clear hRl
            have CF : Hid (∀ w0, ScanAt (w.heap.size + 2) s K w0 → Calls Tryz.prog 26 #[.pointer (some ⟨w.heap.size + 2, 0, none⟩)] w0 fun e w' => e = .returned (.agg #[.int .i64 5, .int .i64 (K : Int)]) ∧ Below w0.heap.size w0 w') := Lib.hid fun w0 h => form_any (w.heap.size + 2) s K w0 h
            rcases sb with _ | _
            · have HE3 := Lib.hid (HE2.out.symm.trans (perZ_bad (.inl rfl)))
              go_wp2_with (first
                | (go_at_call 23; (with_reducible refine (C84.out _ HGS.out).mono ?_); rintro e w4 ⟨rfl, hS, hO⟩; have HG4 := Lib.hid (HG.out.move hS hO); have HS4 := Lib.hid hS; clear hS hO)
                | (go_at_call 51; (with_reducible refine (CR.out _ HS4.out).mono ?_); rintro e w5 ⟨rfl, q, rfl⟩; have HG5 := Lib.hid (HG4.out.drewN q); obtain ⟨-, s0, s1, -⟩ := HG4.out.1)
                | (go_at_call 26; (with_reducible refine (CF.out _ (HS4.out.drewN _)).mono ?_); rintro e wz ⟨rfl, hbz⟩; have HGz := Lib.hid (HG5.out.call hbz); clear hbz s0 s1; have r0 := (HGz.out.2.2.1.2 0 (by omega)).1; have rf0 := (HGz.out.2.2.1.2 0 (by omega)).2; have r1 := (HGz.out.2.2.1.2 1 (by omega)).1; have rf1 := (HGz.out.2.2.1.2 1 (by omega)).2; have r2 := (HGz.out.2.2.1.2 2 (by omega)).1; have rf2 := (HGz.out.2.2.1.2 2 (by omega)).2; have r3 := (HGz.out.2.2.1.2 3 (by omega)).1; have rf3 := (HGz.out.2.2.1.2 3 (by omega)).2; have r4 := (HGz.out.2.2.1.2 4 (by omega)).1; have rf4 := (HGz.out.2.2.1.2 4 (by omega)).2; obtain ⟨e0v, e0⟩ := HGz.out.2.2.2.1.2.1; obtain ⟨e1v, e1⟩ := HGz.out.2.2.2.1.2.2.1; have ef0 := HGz.out.2.2.2.1.2.2.2.1; have ef1 := HGz.out.2.2.2.1.2.2.2.2))
              have hq := set7_is HGz.out.2.2.1 HGz.out.2.2.2.1 (.int .i64 (0)) (.int .i64 (0)) (.int .i64 (0)) (.int .i64 (0)) (.int .i64 (0)) (.int .i64 5) (.int .i64 (K : Int))
              have hbw := set7_below HGz.out.2.2.2.2.1 (.int .i64 (0)) (.int .i64 (0)) (.int .i64 (0)) (.int .i64 (0)) (.int .i64 (0)) (.int .i64 5) (.int .i64 (K : Int))
              unfold set7 at hq hbw
              exact bodyPost_ret (v := .tuple #[.agg #[.int .i64 (0), .int .i64 (0), .int .i64 (0), .int .i64 (0), .int .i64 (0)], .agg #[.int .i64 5, .int .i64 (K : Int)]]) (by simp [results, Tryz.results36, go_sem, hq.1, hq.2.1, hq.2.2.1, hq.2.2.2.1, hq.2.2.2.2.1, hq.2.2.2.2.2.1, hq.2.2.2.2.2.2]) rfl ⟨by rw [HE3.out]; rfl, hbw⟩
            · by_cases hlt : K < s.size
              · have HE3 := Lib.hid (HE2.out.symm.trans (perZ_bad (.inr hlt)))
                have hld : decide (K < s.size) = true := decide_eq_true hlt
                have hldi : decide ((K : Int) < (s.size : Int)) = true := decide_eq_true (by omega)
                go_wp2_with (first
                  | (go_at_call 23; (with_reducible refine (C84.out _ HGS.out).mono ?_); rintro e w4 ⟨rfl, hS, hO⟩; have HG4 := Lib.hid (HG.out.move hS hO); have HS4 := Lib.hid hS; clear hS hO)
                  | (go_at_call 51; (with_reducible refine (CR.out _ HS4.out).mono ?_); rintro e w5 ⟨rfl, q, rfl⟩; have HG5 := Lib.hid (HG4.out.drewN q); obtain ⟨-, s0, s1, -⟩ := HG4.out.1)
                  | (go_at_call 26; (with_reducible refine (CF.out _ (HS4.out.drewN _)).mono ?_); rintro e wz ⟨rfl, hbz⟩; have HGz := Lib.hid (HG5.out.call hbz); clear hbz s0 s1; have r0 := (HGz.out.2.2.1.2 0 (by omega)).1; have rf0 := (HGz.out.2.2.1.2 0 (by omega)).2; have r1 := (HGz.out.2.2.1.2 1 (by omega)).1; have rf1 := (HGz.out.2.2.1.2 1 (by omega)).2; have r2 := (HGz.out.2.2.1.2 2 (by omega)).1; have rf2 := (HGz.out.2.2.1.2 2 (by omega)).2; have r3 := (HGz.out.2.2.1.2 3 (by omega)).1; have rf3 := (HGz.out.2.2.1.2 3 (by omega)).2; have r4 := (HGz.out.2.2.1.2 4 (by omega)).1; have rf4 := (HGz.out.2.2.1.2 4 (by omega)).2; obtain ⟨e0v, e0⟩ := HGz.out.2.2.2.1.2.1; obtain ⟨e1v, e1⟩ := HGz.out.2.2.2.1.2.2.1; have ef0 := HGz.out.2.2.2.1.2.2.2.1; have ef1 := HGz.out.2.2.2.1.2.2.2.2))
                have hq := set7_is HGz.out.2.2.1 HGz.out.2.2.2.1 (.int .i64 (0)) (.int .i64 (0)) (.int .i64 (0)) (.int .i64 (0)) (.int .i64 (0)) (.int .i64 5) (.int .i64 (K : Int))
                have hbw := set7_below HGz.out.2.2.2.2.1 (.int .i64 (0)) (.int .i64 (0)) (.int .i64 (0)) (.int .i64 (0)) (.int .i64 (0)) (.int .i64 5) (.int .i64 (K : Int))
                unfold set7 at hq hbw
                exact bodyPost_ret (v := .tuple #[.agg #[.int .i64 (0), .int .i64 (0), .int .i64 (0), .int .i64 (0), .int .i64 (0)], .agg #[.int .i64 5, .int .i64 (K : Int)]]) (by simp [results, Tryz.results36, go_sem, hq.1, hq.2.1, hq.2.2.1, hq.2.2.2.1, hq.2.2.2.2.1, hq.2.2.2.2.2.1, hq.2.2.2.2.2.2]) rfl ⟨by rw [HE3.out]; rfl, hbw⟩
              · have HE3 := Lib.hid (perZ_ok (s := s) (v := v) (t := zero) (b := true) (k := K) rfl hlt)
                have hld : decide (K < s.size) = false := decide_eq_false hlt
                have hldi : decide ((K : Int) < (s.size : Int)) = false := decide_eq_false (by omega)
                go_wp2_with (first
                  | (go_at_call 23; (with_reducible refine (C84.out _ HGS.out).mono ?_); rintro e w4 ⟨rfl, hS, hO⟩; have HG4 := Lib.hid (HG.out.move hS hO); have HS4 := Lib.hid hS; clear hS hO)
                  | (go_at_call 51; (with_reducible refine (CR.out _ HS4.out).mono ?_); rintro e w5 ⟨rfl, q, rfl⟩; have HG5 := Lib.hid (HG4.out.drewN q); obtain ⟨-, s0, s1, -⟩ := HG4.out.1))
                have HGG : Hid (GS w w2.heap.size s K (glue v zero) w4) := Lib.hid (HG4.out.eqg (glue_zero fun i hi => (HV.out i).2.2 hi))
                have HVV : Hid (∀ j, 0 ≤ v j ∧ v j < 100000000 ∧ 0 ≤ zero j ∧ zero j < 100000000) := Lib.hid fun j => ⟨(HV.out j).1, (HV.out j).2.1, by simp [zero], by simp [zero]⟩
                have g0 : w4.cell? ⟨w2.heap.size, 0, none⟩ = some (.int .i64 (v 0)) := (HGG.out.2.1.2 0 (by omega)).1
                have g1 : w4.cell? ⟨w2.heap.size, 1, none⟩ = some (.int .i64 (v 1)) := (HGG.out.2.1.2 1 (by omega)).1
                have g2 : w4.cell? ⟨w2.heap.size, 2, none⟩ = some (.int .i64 (v 2)) := (HGG.out.2.1.2 2 (by omega)).1
                have g3 : w4.cell? ⟨w2.heap.size, 3, none⟩ = some (.int .i64 (v 3)) := (HGG.out.2.1.2 3 (by omega)).1
                have g4 : w4.cell? ⟨w2.heap.size, 4, none⟩ = some (.int .i64 (zero 0)) := (HGG.out.2.1.2 4 (by omega)).1
                have g5 : w4.cell? ⟨w2.heap.size, 5, none⟩ = some (.int .i64 (zero 1)) := (HGG.out.2.1.2 5 (by omega)).1
                have g6 : w4.cell? ⟨w2.heap.size, 6, none⟩ = some (.int .i64 (zero 2)) := (HGG.out.2.1.2 6 (by omega)).1
                obtain ⟨bl0, bh0, -, -⟩ := HVV.out 0
                obtain ⟨bl1, bh1, -, -⟩ := HVV.out 1
                obtain ⟨bl2, bh2, -, -⟩ := HVV.out 2
                obtain ⟨bl3, bh3, -, -⟩ := HVV.out 3
                obtain ⟨-, -, tl0, th0⟩ := HVV.out 0
                obtain ⟨-, -, tl1, th1⟩ := HVV.out 1
                obtain ⟨-, -, tl2, th2⟩ := HVV.out 2
                obtain ⟨-, q0, q1, q2, q3, q4, q5⟩ := HE3.out
                rw [HE2.out, HSG.out] at q0 q1 q2 q3 q4; rw [HE2.out] at q5
                have qe : R.err = 0 := by rw [← HE2.out]; exact HE3.out.1
                obtain ⟨a0, ha0⟩ : ∃ x, v 0 = x := ⟨_, rfl⟩; rw [ha0] at g0 bl0 bh0 q0; clear ha0
                obtain ⟨a1, ha1⟩ : ∃ x, v 1 = x := ⟨_, rfl⟩; rw [ha1] at g1 bl1 bh1 q1; clear ha1
                obtain ⟨a2, ha2⟩ : ∃ x, v 2 = x := ⟨_, rfl⟩; rw [ha2] at g2 bl2 bh2 q2; clear ha2
                obtain ⟨a3, ha3⟩ : ∃ x, v 3 = x := ⟨_, rfl⟩; rw [ha3] at g3 bl3 bh3 q3; clear ha3
                obtain ⟨x0, hx0⟩ : ∃ x, zero 0 = x := ⟨_, rfl⟩; rw [hx0] at g4 tl0 th0 q4; clear hx0
                obtain ⟨x1, hx1⟩ : ∃ x, zero 1 = x := ⟨_, rfl⟩; rw [hx1] at g5 tl1 th1 q4; clear hx1
                obtain ⟨x2, hx2⟩ : ∃ x, zero 2 = x := ⟨_, rfl⟩; rw [hx2] at g6 tl2 th2 q4; clear hx2
                have q4b : R.v 4 = -1 * (x0 * 3600 + x1 * 60 + x2) := by rw [q4, show (x0 * 60 + x1) * 60 + x2 = x0 * 3600 + x1 * 60 + x2 by omega]
                obtain ⟨A1, hA1⟩ : ∃ x, x0 * 3600 = x := ⟨_, rfl⟩; obtain ⟨A2, hA2⟩ : ∃ x, x1 * 60 = x := ⟨_, rfl⟩; obtain ⟨A3, hA3⟩ : ∃ x, A1 + A2 = x := ⟨_, rfl⟩; obtain ⟨A4, hA4⟩ : ∃ x, A3 + x2 = x := ⟨_, rfl⟩
                have w1 : IntKind.i64.wrap (x0 * 3600) = A1 := by rw [hA1]; exact IntWalk.i64_in _ (by omega)
                have w2_ : IntKind.i64.wrap (x1 * 60) = A2 := by rw [hA2]; exact IntWalk.i64_in _ (by omega)
                have w3 : IntKind.i64.wrap (A1 + A2) = A3 := by rw [hA3]; exact IntWalk.i64_in _ (by omega)
                have w4_ : IntKind.i64.wrap (A3 + x2) = A4 := by rw [hA4]; exact IntWalk.i64_in _ (by omega)
                rw [hA1, hA2, hA3, hA4] at q4b
                have hA5 : 0 ≤ A4 ∧ A4 ≤ 1000000000000 := by omega
                clear hA1 hA2 hA3 hA4 q4
                obtain ⟨b0, hb0⟩ : ∃ x, -1 * a0 = x := ⟨_, rfl⟩; have m0 : IntKind.i64.wrap (-1 * a0) = b0 := (by rw [hb0]; exact IntWalk.i64_in _ (by omega)); have n0 : IntKind.i64.wrap (-a0) = b0 := (by rw [show -a0 = -1 * a0 by omega]; exact m0); rw [hb0] at q0; clear hb0
                obtain ⟨b1, hb1⟩ : ∃ x, -1 * a1 = x := ⟨_, rfl⟩; have m1 : IntKind.i64.wrap (-1 * a1) = b1 := (by rw [hb1]; exact IntWalk.i64_in _ (by omega)); have n1 : IntKind.i64.wrap (-a1) = b1 := (by rw [show -a1 = -1 * a1 by omega]; exact m1); rw [hb1] at q1; clear hb1
                obtain ⟨b2, hb2⟩ : ∃ x, -1 * a2 = x := ⟨_, rfl⟩; have m2 : IntKind.i64.wrap (-1 * a2) = b2 := (by rw [hb2]; exact IntWalk.i64_in _ (by omega)); have n2 : IntKind.i64.wrap (-a2) = b2 := (by rw [show -a2 = -1 * a2 by omega]; exact m2); rw [hb2] at q2; clear hb2
                obtain ⟨b3, hb3⟩ : ∃ x, -1 * a3 = x := ⟨_, rfl⟩; have m3 : IntKind.i64.wrap (-1 * a3) = b3 := (by rw [hb3]; exact IntWalk.i64_in _ (by omega)); have n3 : IntKind.i64.wrap (-a3) = b3 := (by rw [show -a3 = -1 * a3 by omega]; exact m3); rw [hb3] at q3; clear hb3
                obtain ⟨b4, hb4⟩ : ∃ x, -1 * A4 = x := ⟨_, rfl⟩; have m4 : IntKind.i64.wrap (-1 * A4) = b4 := (by rw [hb4]; exact IntWalk.i64_in _ (by omega)); have n4 : IntKind.i64.wrap (-A4) = b4 := (by rw [show -A4 = -1 * A4 by omega]; exact m4); rw [hb4] at q4b; clear hb4
                have HQ := Lib.hid (And.intro qe (And.intro q0 (And.intro q1 (And.intro q2 (And.intro q3 (And.intro q4b q5))))))
                clear qe q0 q1 q2 q3 q4b q5 bl0 bh0 bl1 bh1 bl2 bh2 bl3 bh3 tl0 th0 tl1 th1 tl2 th2 hA5
                have r0 := (HG4.out.2.2.1.2 0 (by omega)).1
                have rf0 := (HG4.out.2.2.1.2 0 (by omega)).2
                have r1 := (HG4.out.2.2.1.2 1 (by omega)).1
                have rf1 := (HG4.out.2.2.1.2 1 (by omega)).2
                have r2 := (HG4.out.2.2.1.2 2 (by omega)).1
                have rf2 := (HG4.out.2.2.1.2 2 (by omega)).2
                have r3 := (HG4.out.2.2.1.2 3 (by omega)).1
                have rf3 := (HG4.out.2.2.1.2 3 (by omega)).2
                have r4 := (HG4.out.2.2.1.2 4 (by omega)).1
                have rf4 := (HG4.out.2.2.1.2 4 (by omega)).2
                obtain ⟨e0v, e0⟩ := HG4.out.2.2.2.1.2.1
                obtain ⟨e1v, e1⟩ := HG4.out.2.2.2.1.2.2.1
                have ef0 := HG4.out.2.2.2.1.2.2.2.1
                have ef1 := HG4.out.2.2.2.1.2.2.2.2
                have hlb : w.heap.size < w4.heap.size := HG4.out.2.2.1.1
                have hlb1 : w.heap.size + 1 < w4.heap.size := HG4.out.2.2.2.1.1
                have hlb2 : w2.heap.size < w4.heap.size := HG4.out.2.1.1
                have CFI : Hid (∀ w0, Calls Tryz.prog 29 #[] w0 fun e w' => e = .returned (.agg #[.int .i64 0, .int .i64 (-1)]) ∧ Below w0.heap.size w0 w') := Lib.hid fine_any
                have y0 := cell_regrown (w := w4.drewN q) (show (w4.drewN q).cell? ⟨w2.heap.size, 0, none⟩ = some _ from g0)
                have y1 := cell_regrown (w := w4.drewN q) (show (w4.drewN q).cell? ⟨w2.heap.size, 1, none⟩ = some _ from g1)
                have y2 := cell_regrown (w := w4.drewN q) (show (w4.drewN q).cell? ⟨w2.heap.size, 2, none⟩ = some _ from g2)
                have y3 := cell_regrown (w := w4.drewN q) (show (w4.drewN q).cell? ⟨w2.heap.size, 3, none⟩ = some _ from g3)
                have y4 := cell_regrown (w := w4.drewN q) (show (w4.drewN q).cell? ⟨w2.heap.size, 4, none⟩ = some _ from g4)
                have y5 := cell_regrown (w := w4.drewN q) (show (w4.drewN q).cell? ⟨w2.heap.size, 5, none⟩ = some _ from g5)
                have y6 := cell_regrown (w := w4.drewN q) (show (w4.drewN q).cell? ⟨w2.heap.size, 6, none⟩ = some _ from g6)
                refine wp_region_below_tail 30 (by kernel_rfl) (by kernel_rfl) ?_
                simp only [List.take_succ_cons, List.take_zero, List.drop_succ_cons, List.drop_zero]
                repeat (go_big_quiet_step ((go_at_call 29; exact Calls.regrown_of (CFI.out _))))
                refine wpQuiet_nil ?_
                intro w7 hb7
                have R0 := (hb7.cell (p := ⟨w.heap.size, 0, none⟩) hlb).trans r0; have RF0 := (hb7.frozen (p := ⟨w.heap.size, 0, none⟩) hlb).trans rf0; have R1 := (hb7.cell (p := ⟨w.heap.size, 1, none⟩) hlb).trans r1; have RF1 := (hb7.frozen (p := ⟨w.heap.size, 1, none⟩) hlb).trans rf1; have R2 := (hb7.cell (p := ⟨w.heap.size, 2, none⟩) hlb).trans r2; have RF2 := (hb7.frozen (p := ⟨w.heap.size, 2, none⟩) hlb).trans rf2; have R3 := (hb7.cell (p := ⟨w.heap.size, 3, none⟩) hlb).trans r3; have RF3 := (hb7.frozen (p := ⟨w.heap.size, 3, none⟩) hlb).trans rf3; have R4 := (hb7.cell (p := ⟨w.heap.size, 4, none⟩) hlb).trans r4; have RF4 := (hb7.frozen (p := ⟨w.heap.size, 4, none⟩) hlb).trans rf4; have E0 := (hb7.cell (p := ⟨w.heap.size + 1, 0, none⟩) hlb1).trans e0; have EF0 := (hb7.frozen (p := ⟨w.heap.size + 1, 0, none⟩) hlb1).trans ef0; have E1 := (hb7.cell (p := ⟨w.heap.size + 1, 1, none⟩) hlb1).trans e1; have EF1 := (hb7.frozen (p := ⟨w.heap.size + 1, 1, none⟩) hlb1).trans ef1; have G0 := (hb7.cell (p := ⟨w2.heap.size, 0, none⟩) hlb2).trans g0; have G1 := (hb7.cell (p := ⟨w2.heap.size, 1, none⟩) hlb2).trans g1; have G2 := (hb7.cell (p := ⟨w2.heap.size, 2, none⟩) hlb2).trans g2; have G3 := (hb7.cell (p := ⟨w2.heap.size, 3, none⟩) hlb2).trans g3; have G4 := (hb7.cell (p := ⟨w2.heap.size, 4, none⟩) hlb2).trans g4; have G5 := (hb7.cell (p := ⟨w2.heap.size, 5, none⟩) hlb2).trans g5; have G6 := (hb7.cell (p := ⟨w2.heap.size, 6, none⟩) hlb2).trans g6; have HB7 := Lib.hid hb7; clear hb7
                go_wp2_with fail
                have HG7 := Lib.hid ((HG4.out.drewN q).call HB7.out)
                have hq := set7_is HG7.out.2.2.1 HG7.out.2.2.2.1 (.int .i64 (b0)) (.int .i64 (b1)) (.int .i64 (b2)) (.int .i64 (b3)) (.int .i64 (b4)) (.int .i64 0) (.int .i64 (-1))
                have hbw := set7_below HG7.out.2.2.2.2.1 (.int .i64 (b0)) (.int .i64 (b1)) (.int .i64 (b2)) (.int .i64 (b3)) (.int .i64 (b4)) (.int .i64 0) (.int .i64 (-1))
                unfold set7 at hq hbw
                exact bodyPost_ret (v := .tuple #[.agg #[.int .i64 (b0), .int .i64 (b1), .int .i64 (b2), .int .i64 (b3), .int .i64 (b4)], .agg #[.int .i64 0, .int .i64 (-1)]]) (by simp [results, Tryz.results36, go_sem, hq.1, hq.2.1, hq.2.2.1, hq.2.2.2.1, hq.2.2.2.2.1, hq.2.2.2.2.2.1, hq.2.2.2.2.2.2]) rfl ⟨by unfold agg5; rw [HQ.out.1, HQ.out.2.1, HQ.out.2.2.1, HQ.out.2.2.2.1, HQ.out.2.2.2.2.1, HQ.out.2.2.2.2.2.1, HQ.out.2.2.2.2.2.2], hbw⟩
          · have hd0 : (R0 == 0) = false := by simpa using hR0
            have hd0i : ((R0 : Int) == 0) = false := by simpa using hR0
            have hR1 : 0 < R0 := by omega
            clear hR0
            by_cases hR8 : 8 < R0
            · have HE2 : Hid (R = ⟨6, K, zero⟩) := Lib.hid (by rw [← HE.out, unitsF_many (by rw [HR2.out]; exact hR8)]; exact perT_err (by show (6 : Int) ≠ 0; decide))
              have hd8 : decide (8 < R0) = true := decide_eq_true hR8
              have hd8i : decide (8 < (R0 : Int)) = true := decide_eq_true (by omega)
              go_wp2_with (first
                | (go_at_call 23; (with_reducible refine (C84.out _ HGS.out).mono ?_); rintro e w4 ⟨rfl, hS, hO⟩; have HG4 := Lib.hid (HG.out.move hS hO); have HS4 := Lib.hid hS; clear hS hO)
                | (go_at_call 51; (with_reducible refine (CR.out _ HS4.out).mono ?_); rintro e w5 ⟨rfl, q, rfl⟩; have HG5 := Lib.hid (HG4.out.drewN q); obtain ⟨-, s0, s1, -⟩ := HG4.out.1))
              have r0 := (HG4.out.2.2.1.2 0 (by omega)).1
              have rf0 := (HG4.out.2.2.1.2 0 (by omega)).2
              have r1 := (HG4.out.2.2.1.2 1 (by omega)).1
              have rf1 := (HG4.out.2.2.1.2 1 (by omega)).2
              have r2 := (HG4.out.2.2.1.2 2 (by omega)).1
              have rf2 := (HG4.out.2.2.1.2 2 (by omega)).2
              have r3 := (HG4.out.2.2.1.2 3 (by omega)).1
              have rf3 := (HG4.out.2.2.1.2 3 (by omega)).2
              have r4 := (HG4.out.2.2.1.2 4 (by omega)).1
              have rf4 := (HG4.out.2.2.1.2 4 (by omega)).2
              obtain ⟨e0v, e0⟩ := HG4.out.2.2.2.1.2.1
              obtain ⟨e1v, e1⟩ := HG4.out.2.2.2.1.2.2.1
              have ef0 := HG4.out.2.2.2.1.2.2.2.1
              have ef1 := HG4.out.2.2.2.1.2.2.2.2
              go_region_with fail
              all_goals
                go_wp2_with fail
                have hq := set7_is (HG4.out.drewN (q + 1)).2.2.1 (HG4.out.drewN (q + 1)).2.2.2.1 (.int .i64 (0)) (.int .i64 (0)) (.int .i64 (0)) (.int .i64 (0)) (.int .i64 (0)) (.int .i64 6) (.int .i64 (K : Int))
                have hbw := set7_below (HG4.out.drewN (q + 1)).2.2.2.2.1 (.int .i64 (0)) (.int .i64 (0)) (.int .i64 (0)) (.int .i64 (0)) (.int .i64 (0)) (.int .i64 6) (.int .i64 (K : Int))
                unfold set7 at hq hbw
                exact bodyPost_ret (v := .tuple #[.agg #[.int .i64 (0), .int .i64 (0), .int .i64 (0), .int .i64 (0), .int .i64 (0)], .agg #[.int .i64 6, .int .i64 (K : Int)]]) (by simp [results, Tryz.results36, go_sem, hq.1, hq.2.1, hq.2.2.1, hq.2.2.2.1, hq.2.2.2.2.1, hq.2.2.2.2.2.1, hq.2.2.2.2.2.2]) rfl ⟨by rw [HE2.out]; rfl, hbw⟩
            · have hd8 : decide (8 < R0) = false := decide_eq_false hR8
              have hd8i : decide (8 < (R0 : Int)) = false := decide_eq_false (by omega)
              have CT : Hid (∀ w0, ScanAt (w.heap.size + 2) s K w0 → Calls Tryz.prog 49 #[.pointer (some ⟨w.heap.size + 2, 0, none⟩), .int .i64 (R0 : Int)] w0 (ScPost (w.heap.size + 2) s w0 (.tuple #[.int .i64 (num_ s K R0 : Nat), .bool true]) (K + R0 : Nat))) := Lib.hid fun w0 h => by
                have q := take_any (w.heap.size + 2) s K R0 R0 rfl w0 h hK hs (by omega)
                obtain ⟨q1, q2, q3⟩ := dg_yes (s := s) (k := K) (n := R0) (by rw [HR.out]; exact Nat.le_refl _)
                rw [q1, q2, q3] at q
                exact q
              have hx8 : num_ s K R0 < 10 ^ R0 := num_lt (by rw [HR.out]; exact Nat.le_refl _)
              have hx9 : 10 ^ R0 ≤ 100000000 := by have q : (10 : Nat) ^ R0 ≤ 10 ^ 8 := Nat.pow_le_pow_right (by omega) (by omega); simpa using q
              have HM : Hid (∀ K2, K + R0 = K2 → (∀ j, (hj : j < u.size) → u[j] ≠ nxt s K2) → R = ⟨5, K2, zero⟩) := Lib.hid fun K2 h1 h2 => by rw [← HE.out, miss HL.out HR2.out hR1 (by omega) h1 h2]; exact perT_err (by show (5 : Int) ≠ 0; decide)
              have HH : Hid (∀ K2 i, K + R0 = K2 → (hi : i < u.size) → u[i] = nxt s K2 → (∀ j, (hj : j < u.size) → j < i → u[j] ≠ nxt s K2) → K2 < s.size ∧ perT s.data.toList (unitsF s.data.toList ymwd f (nx + i + 1) (K2 + 1) (upd v (nx + i) (num_ s K R0 : Nat)) true) = R) := Lib.hid fun K2 i h1 h2 h3 h4 => by have q := hit (f := f) (v := v) (sb := sb) HL.out HR2.out hR1 (by omega) h1 h2 h3 h4; exact ⟨q.1, by rw [← q.2]; exact HE.out⟩
              obtain ⟨X, hX⟩ : ∃ X, num_ s K R0 = X := ⟨_, rfl⟩
              obtain ⟨K2, hK2⟩ : ∃ K2, K + R0 = K2 := ⟨_, rfl⟩
              rw [hX] at CT HH hx8
              rw [hK2] at CT hRs
              have HX8 : Hid (X < 100000000) := Lib.hid (Nat.lt_of_lt_of_le hx8 hx9)
              have HK2 := Lib.hid hK2
              clear hX hK2 hx8 hx9
              unfold ScPost at CT
              have hu10 : u.size ≤ 10 := by omega
              have HUS := Lib.hid hus; clear hus
              obtain ⟨c, hc⟩ : ∃ c, nxt s K2 = c := ⟨_, rfl⟩
              have HC := Lib.hid hc
              have CN : Hid (∀ w0, ScanAt (w.heap.size + 2) s K2 w0 → Calls Tryz.prog 48 #[.pointer (some ⟨w.heap.size + 2, 0, none⟩)] w0 fun e w' => e = .returned (.int .u8 (c.toNat : Int)) ∧ ∃ m, w' = w0.drewN m) := Lib.hid fun w0 h => hc ▸ next_any (w.heap.size + 2) s K2 w0 h
              clear hc
              go_wp2_with (first
                | (go_at_call 23; (with_reducible refine (C84.out _ HGS.out).mono ?_); rintro e w4 ⟨rfl, hS, hO⟩; have HG4 := Lib.hid (HG.out.move hS hO); have HS4 := Lib.hid hS; clear hS hO)
                | (go_at_call 51; (with_reducible refine (CR.out _ HS4.out).mono ?_); rintro e w5 ⟨rfl, q, rfl⟩; have HG5 := Lib.hid (HG4.out.drewN q); obtain ⟨-, s0, s1, -⟩ := HG4.out.1)
                | (go_at_call 49; (with_reducible refine (CT.out _ (HS4.out.drewN _)).mono ?_); rintro e w6 ⟨rfl, hS, hO⟩; have HG6 := Lib.hid (HG5.out.move hS hO); clear hS hO s0 s1))
              go_loopw [13] (fun ci wr => ∃ i : Nat, ci = .int .i64 (i : Int) ∧ i ≤ u.size ∧ Hid (∀ j, (hj : j < u.size) → j < i → u[j] ≠ c) ∧ Hid (GS w w2.heap.size s K2 v wr)) (fun ci _ => u.size - (intOf ci).toNat)
              case atStart => exact ⟨0, rfl, by omega, Lib.hid fun j _ h => absurd h (Nat.not_lt_zero j), HG6⟩
              case round =>
                clear HG6
                obtain ⟨i, rfl, hi, HN, HG6⟩ := hrel
                obtain ⟨wB, hwB⟩ : ∃ wB : World, wB = wr := ⟨_, rfl⟩
                subst hwB
                have CN2 : Hid (∀ m, Calls Tryz.prog 48 #[.pointer (some ⟨w.heap.size + 2, 0, none⟩)] (wB.drewN m) fun e w' => e = .returned (.int .u8 (c.toNat : Int)) ∧ ∃ q, w' = (wB.drewN m).drewN q) := Lib.hid fun m => CN.out _ (HG6.out.1.drewN m)
                by_cases hiu : i < u.size
                · have hd : decide (i < u.size) = true := decide_eq_true hiu
                  have hdi : decide ((i : Int) < (u.size : Int)) = true := decide_eq_true (by omega)
                  by_cases hci : u[i] = c
                  · obtain ⟨hlt, hE2⟩ := HH.out K2 i HK2.out hiu (by rw [HC.out]; exact hci) (by rw [HC.out]; exact HN.out)
                    have HE2 := Lib.hid hE2; clear hE2
                    have n1 : ((u[i].toNat : Int) != (c.toNat : Int)) = false := by rw [hci]; simp
                    have n2 : ((u[i].toNat : Int) == (c.toNat : Int)) = true := by rw [hci]; simp
                    have HCI := Lib.hid hci; clear hci
                    have nl1 : (i == u.size) = false := by simp; omega
                    have nl2 : ((i : Int) == (u.size : Int)) = false := by simp; omega
                    obtain ⟨J, hJ⟩ : ∃ J, 0 + (nx + i) = J := ⟨_, rfl⟩
                    have hJ7 : J < 7 := by have := HUS.out; omega
                    have j1 : 0 + (i : Int) + 4 - (u.size : Int) = (J : Int) := by have := HUS.out; omega
                    have j2 : (i : Int) + 4 - (u.size : Int) = (J : Int) := by have := HUS.out; omega
                    have HJ := Lib.hid hJ; clear hJ
                    have rJ := (HG6.out.2.1.2 J hJ7).1; have rJf := (HG6.out.2.1.2 J hJ7).2
                    have hne : w2.heap.size ≠ w.heap.size + 2 := by have := HG6.out.2.2.2.2.2; omega
                    obtain ⟨-, s0, s1, sf⟩ := HG6.out.1
                    have CL : Hid (∀ w0, Calls Tryz.prog 65 #[.int .i64 0] w0 fun e w' => e = .returned (.int .i64 4) ∧ w' = w0) := Lib.hid longer_A
                    go_wp2_with fail
                    go_quiet ((go_at_call 48; exact Calls.quiet_of (CN2.out _)))
                    go_wp2_with (go_at_call 65; (with_reducible refine (CL.out _).mono ?_); rintro e w7 ⟨rfl, rfl⟩)
                    go_roundw
                    case rel => exact .inl ⟨_, nx + i + 1, K2 + 1, f, upd v (nx + i) (X : Nat), true, rfl, rfl, rfl, by have := HUS.out; omega, by have := HUS.out; omega, by have := HUS.out; simp [ByteArray.size_extract]; omega, hlt, Lib.hid HL.out.next, HE2, Lib.hid (by have e := HJ.out; rw [Nat.zero_add] at e; subst e; exact ((HG6.out.drewN _).at _).put _ _), Lib.hid fun j => by have h := HV.out j; have := HUS.out; unfold upd; by_cases e : j = nx + i; (rw [if_pos e]; exact ⟨by omega, by have := HX8.out; omega, by omega⟩); (rw [if_neg e]; exact h)⟩
                    case measure => exact inMs_u (by simp [ByteArray.size_extract]; omega)
                  · have n1 : ((u[i].toNat : Int) != (c.toNat : Int)) = true := by have q := byte_eq u[i] c; simp only [bne, q]; simpa using hci
                    have n2 : ((u[i].toNat : Int) == (c.toNat : Int)) = false := by rw [byte_eq]; simpa using hci
                    have HN2 : Hid (∀ j, (hj : j < u.size) → j < i + 1 → u[j] ≠ c) := Lib.hid fun j hj h => by
                      by_cases e : j = i
                      · subst e; exact hci
                      · exact HN.out j hj (by omega)
                    clear hci
                    go_wp2_with fail
                    go_quiet ((go_at_call 48; exact Calls.quiet_of (CN2.out _)))
                    go_wp2_with fail
                    go_roundw
                    case rel => exact ⟨i + 1, by go_num, by omega, HN2, Lib.hid (HG6.out.drewN _)⟩
                    case measure => simp [intOf]; omega
                · obtain rfl : u.size = i := by omega
                  have hd : decide (u.size < u.size) = false := by simp
                  have hdi : decide ((u.size : Int) < (u.size : Int)) = false := by simp
                  have HE2 := Lib.hid (HM.out K2 HK2.out (fun j hj => by rw [HC.out]; exact HN.out j hj hj))
                  have CF : Hid (∀ w0, ScanAt (w.heap.size + 2) s K2 w0 → Calls Tryz.prog 26 #[.pointer (some ⟨w.heap.size + 2, 0, none⟩)] w0 fun e w' => e = .returned (.agg #[.int .i64 5, .int .i64 (K2 : Int)]) ∧ Below w0.heap.size w0 w') := Lib.hid fun w0 h => form_any (w.heap.size + 2) s K2 w0 h
                  go_wp2_with fail
                  go_quiet (fail)
                  have HGS6 := Lib.hid HG6.out.1
                  go_wp2_with (go_at_call 26; (with_reducible refine (CF.out _ (HGS6.out.drewN _)).mono ?_); rintro e wz ⟨rfl, hbz⟩; have HGz := Lib.hid ((HG6.out.drewN _).call hbz); clear hbz; have r0 := (HGz.out.2.2.1.2 0 (by omega)).1; have rf0 := (HGz.out.2.2.1.2 0 (by omega)).2; have r1 := (HGz.out.2.2.1.2 1 (by omega)).1; have rf1 := (HGz.out.2.2.1.2 1 (by omega)).2; have r2 := (HGz.out.2.2.1.2 2 (by omega)).1; have rf2 := (HGz.out.2.2.1.2 2 (by omega)).2; have r3 := (HGz.out.2.2.1.2 3 (by omega)).1; have rf3 := (HGz.out.2.2.1.2 3 (by omega)).2; have r4 := (HGz.out.2.2.1.2 4 (by omega)).1; have rf4 := (HGz.out.2.2.1.2 4 (by omega)).2; obtain ⟨e0v, e0⟩ := HGz.out.2.2.2.1.2.1; obtain ⟨e1v, e1⟩ := HGz.out.2.2.2.1.2.2.1; have ef0 := HGz.out.2.2.2.1.2.2.2.1; have ef1 := HGz.out.2.2.2.1.2.2.2.2)
                  have hq := set7_is HGz.out.2.2.1 HGz.out.2.2.2.1 (.int .i64 (0)) (.int .i64 (0)) (.int .i64 (0)) (.int .i64 (0)) (.int .i64 (0)) (.int .i64 5) (.int .i64 (K2 : Int))
                  have hbw := set7_below HGz.out.2.2.2.2.1 (.int .i64 (0)) (.int .i64 (0)) (.int .i64 (0)) (.int .i64 (0)) (.int .i64 (0)) (.int .i64 5) (.int .i64 (K2 : Int))
                  unfold set7 at hq hbw
                  exact bodyPost_ret (v := .tuple #[.agg #[.int .i64 (0), .int .i64 (0), .int .i64 (0), .int .i64 (0), .int .i64 (0)], .agg #[.int .i64 5, .int .i64 (K2 : Int)]]) (by simp [results, Tryz.results36, go_sem, hq.1, hq.2.1, hq.2.2.1, hq.2.2.2.1, hq.2.2.2.2.1, hq.2.2.2.2.2.1, hq.2.2.2.2.2.2]) rfl ⟨by rw [HE2.out]; rfl, hbw⟩
      · obtain ⟨f, rfl⟩ : ∃ q, f = q + 1 := ⟨f - 1, by omega⟩
        have CR : Hid (∀ w0, ScanAt (w.heap.size + 2) s K w0 → Calls Tryz.prog 51 #[.pointer (some ⟨w.heap.size + 2, 0, none⟩)] w0 fun e w' => e = .returned (.int .i64 (run_ s K : Nat)) ∧ ∃ q, w' = w0.drewN q) := Lib.hid fun w0 h => rrun_any (w.heap.size + 2) s K w0 h hK hs
        obtain ⟨R0, hR⟩ : ∃ R, run_ s K = R := ⟨_, rfl⟩
        have HR2 : Hid (runL s.data.toList K = R0) := Lib.hid hR
        have hRs := run_le s K hK
        rw [hR] at CR hRs
        have HR := Lib.hid hR
        clear hR
        have HGS := Lib.hid HG.out.1
        obtain ⟨w4, hw4⟩ : ∃ x : World, x = wA := ⟨_, rfl⟩
        subst hw4
        have HG4 := HG
        have HS4 := HGS
        by_cases hR0 : R0 = 0
        · have hRl : runL s.data.toList K = 0 := HR2.out.trans hR0
          subst hR0
          have HE2 : Hid (perZ s.data.toList v t sb K = R) := Lib.hid (by rw [← HE.out, unitsF_none hRl]; exact (finB_ok (x := ⟨K, t, sb, 0⟩) rfl).symm)
          clear hRl
          have CF : Hid (∀ w0, ScanAt (w.heap.size + 2) s K w0 → Calls Tryz.prog 26 #[.pointer (some ⟨w.heap.size + 2, 0, none⟩)] w0 fun e w' => e = .returned (.agg #[.int .i64 5, .int .i64 (K : Int)]) ∧ Below w0.heap.size w0 w') := Lib.hid fun w0 h => form_any (w.heap.size + 2) s K w0 h
          rcases sb with _ | _
          · have HE3 := Lib.hid (HE2.out.symm.trans (perZ_bad (.inl rfl)))
            go_wp2_with (first
              | (go_at_call 51; (with_reducible refine (CR.out _ HS4.out).mono ?_); rintro e w5 ⟨rfl, q, rfl⟩; have HG5 := Lib.hid (HG4.out.drewN q); obtain ⟨-, s0, s1, -⟩ := HG4.out.1)
              | (go_at_call 26; (with_reducible refine (CF.out _ (HS4.out.drewN _)).mono ?_); rintro e wz ⟨rfl, hbz⟩; have HGz := Lib.hid (HG5.out.call hbz); clear hbz s0 s1; have r0 := (HGz.out.2.2.1.2 0 (by omega)).1; have rf0 := (HGz.out.2.2.1.2 0 (by omega)).2; have r1 := (HGz.out.2.2.1.2 1 (by omega)).1; have rf1 := (HGz.out.2.2.1.2 1 (by omega)).2; have r2 := (HGz.out.2.2.1.2 2 (by omega)).1; have rf2 := (HGz.out.2.2.1.2 2 (by omega)).2; have r3 := (HGz.out.2.2.1.2 3 (by omega)).1; have rf3 := (HGz.out.2.2.1.2 3 (by omega)).2; have r4 := (HGz.out.2.2.1.2 4 (by omega)).1; have rf4 := (HGz.out.2.2.1.2 4 (by omega)).2; obtain ⟨e0v, e0⟩ := HGz.out.2.2.2.1.2.1; obtain ⟨e1v, e1⟩ := HGz.out.2.2.2.1.2.2.1; have ef0 := HGz.out.2.2.2.1.2.2.2.1; have ef1 := HGz.out.2.2.2.1.2.2.2.2))
            have hq := set7_is HGz.out.2.2.1 HGz.out.2.2.2.1 (.int .i64 (0)) (.int .i64 (0)) (.int .i64 (0)) (.int .i64 (0)) (.int .i64 (0)) (.int .i64 5) (.int .i64 (K : Int))
            have hbw := set7_below HGz.out.2.2.2.2.1 (.int .i64 (0)) (.int .i64 (0)) (.int .i64 (0)) (.int .i64 (0)) (.int .i64 (0)) (.int .i64 5) (.int .i64 (K : Int))
            unfold set7 at hq hbw
            exact bodyPost_ret (v := .tuple #[.agg #[.int .i64 (0), .int .i64 (0), .int .i64 (0), .int .i64 (0), .int .i64 (0)], .agg #[.int .i64 5, .int .i64 (K : Int)]]) (by simp [results, Tryz.results36, go_sem, hq.1, hq.2.1, hq.2.2.1, hq.2.2.2.1, hq.2.2.2.2.1, hq.2.2.2.2.2.1, hq.2.2.2.2.2.2]) rfl ⟨by rw [HE3.out]; rfl, hbw⟩
          · by_cases hlt : K < s.size
            · have HE3 := Lib.hid (HE2.out.symm.trans (perZ_bad (.inr hlt)))
              have hld : decide (K < s.size) = true := decide_eq_true hlt
              have hldi : decide ((K : Int) < (s.size : Int)) = true := decide_eq_true (by omega)
              go_wp2_with (first
                | (go_at_call 51; (with_reducible refine (CR.out _ HS4.out).mono ?_); rintro e w5 ⟨rfl, q, rfl⟩; have HG5 := Lib.hid (HG4.out.drewN q); obtain ⟨-, s0, s1, -⟩ := HG4.out.1)
                | (go_at_call 26; (with_reducible refine (CF.out _ (HS4.out.drewN _)).mono ?_); rintro e wz ⟨rfl, hbz⟩; have HGz := Lib.hid (HG5.out.call hbz); clear hbz s0 s1; have r0 := (HGz.out.2.2.1.2 0 (by omega)).1; have rf0 := (HGz.out.2.2.1.2 0 (by omega)).2; have r1 := (HGz.out.2.2.1.2 1 (by omega)).1; have rf1 := (HGz.out.2.2.1.2 1 (by omega)).2; have r2 := (HGz.out.2.2.1.2 2 (by omega)).1; have rf2 := (HGz.out.2.2.1.2 2 (by omega)).2; have r3 := (HGz.out.2.2.1.2 3 (by omega)).1; have rf3 := (HGz.out.2.2.1.2 3 (by omega)).2; have r4 := (HGz.out.2.2.1.2 4 (by omega)).1; have rf4 := (HGz.out.2.2.1.2 4 (by omega)).2; obtain ⟨e0v, e0⟩ := HGz.out.2.2.2.1.2.1; obtain ⟨e1v, e1⟩ := HGz.out.2.2.2.1.2.2.1; have ef0 := HGz.out.2.2.2.1.2.2.2.1; have ef1 := HGz.out.2.2.2.1.2.2.2.2))
              have hq := set7_is HGz.out.2.2.1 HGz.out.2.2.2.1 (.int .i64 (0)) (.int .i64 (0)) (.int .i64 (0)) (.int .i64 (0)) (.int .i64 (0)) (.int .i64 5) (.int .i64 (K : Int))
              have hbw := set7_below HGz.out.2.2.2.2.1 (.int .i64 (0)) (.int .i64 (0)) (.int .i64 (0)) (.int .i64 (0)) (.int .i64 (0)) (.int .i64 5) (.int .i64 (K : Int))
              unfold set7 at hq hbw
              exact bodyPost_ret (v := .tuple #[.agg #[.int .i64 (0), .int .i64 (0), .int .i64 (0), .int .i64 (0), .int .i64 (0)], .agg #[.int .i64 5, .int .i64 (K : Int)]]) (by simp [results, Tryz.results36, go_sem, hq.1, hq.2.1, hq.2.2.1, hq.2.2.2.1, hq.2.2.2.2.1, hq.2.2.2.2.2.1, hq.2.2.2.2.2.2]) rfl ⟨by rw [HE3.out]; rfl, hbw⟩
            · have HE3 := Lib.hid (perZ_ok (s := s) (v := v) (t := t) (b := true) (k := K) rfl hlt)
              have hld : decide (K < s.size) = false := decide_eq_false hlt
              have hldi : decide ((K : Int) < (s.size : Int)) = false := decide_eq_false (by omega)
              go_wp2_with (first
                | (go_at_call 51; (with_reducible refine (CR.out _ HS4.out).mono ?_); rintro e w5 ⟨rfl, q, rfl⟩; have HG5 := Lib.hid (HG4.out.drewN q); obtain ⟨-, s0, s1, -⟩ := HG4.out.1))
              have HGG := HG4; have HVV := HV
              have g0 : w4.cell? ⟨w2.heap.size, 0, none⟩ = some (.int .i64 (v 0)) := (HGG.out.2.1.2 0 (by omega)).1
              have g1 : w4.cell? ⟨w2.heap.size, 1, none⟩ = some (.int .i64 (v 1)) := (HGG.out.2.1.2 1 (by omega)).1
              have g2 : w4.cell? ⟨w2.heap.size, 2, none⟩ = some (.int .i64 (v 2)) := (HGG.out.2.1.2 2 (by omega)).1
              have g3 : w4.cell? ⟨w2.heap.size, 3, none⟩ = some (.int .i64 (v 3)) := (HGG.out.2.1.2 3 (by omega)).1
              have g4 : w4.cell? ⟨w2.heap.size, 4, none⟩ = some (.int .i64 (t 0)) := (HGG.out.2.1.2 4 (by omega)).1
              have g5 : w4.cell? ⟨w2.heap.size, 5, none⟩ = some (.int .i64 (t 1)) := (HGG.out.2.1.2 5 (by omega)).1
              have g6 : w4.cell? ⟨w2.heap.size, 6, none⟩ = some (.int .i64 (t 2)) := (HGG.out.2.1.2 6 (by omega)).1
              obtain ⟨bl0, bh0, -, -⟩ := HVV.out 0
              obtain ⟨bl1, bh1, -, -⟩ := HVV.out 1
              obtain ⟨bl2, bh2, -, -⟩ := HVV.out 2
              obtain ⟨bl3, bh3, -, -⟩ := HVV.out 3
              obtain ⟨-, -, tl0, th0⟩ := HVV.out 0
              obtain ⟨-, -, tl1, th1⟩ := HVV.out 1
              obtain ⟨-, -, tl2, th2⟩ := HVV.out 2
              obtain ⟨-, q0, q1, q2, q3, q4, q5⟩ := HE3.out
              rw [HE2.out, HSG.out] at q0 q1 q2 q3 q4; rw [HE2.out] at q5
              have qe : R.err = 0 := by rw [← HE2.out]; exact HE3.out.1
              obtain ⟨a0, ha0⟩ : ∃ x, v 0 = x := ⟨_, rfl⟩; rw [ha0] at g0 bl0 bh0 q0; clear ha0
              obtain ⟨a1, ha1⟩ : ∃ x, v 1 = x := ⟨_, rfl⟩; rw [ha1] at g1 bl1 bh1 q1; clear ha1
              obtain ⟨a2, ha2⟩ : ∃ x, v 2 = x := ⟨_, rfl⟩; rw [ha2] at g2 bl2 bh2 q2; clear ha2
              obtain ⟨a3, ha3⟩ : ∃ x, v 3 = x := ⟨_, rfl⟩; rw [ha3] at g3 bl3 bh3 q3; clear ha3
              obtain ⟨x0, hx0⟩ : ∃ x, t 0 = x := ⟨_, rfl⟩; rw [hx0] at g4 tl0 th0 q4; clear hx0
              obtain ⟨x1, hx1⟩ : ∃ x, t 1 = x := ⟨_, rfl⟩; rw [hx1] at g5 tl1 th1 q4; clear hx1
              obtain ⟨x2, hx2⟩ : ∃ x, t 2 = x := ⟨_, rfl⟩; rw [hx2] at g6 tl2 th2 q4; clear hx2
              have q4b : R.v 4 = -1 * (x0 * 3600 + x1 * 60 + x2) := by rw [q4, show (x0 * 60 + x1) * 60 + x2 = x0 * 3600 + x1 * 60 + x2 by omega]
              obtain ⟨A1, hA1⟩ : ∃ x, x0 * 3600 = x := ⟨_, rfl⟩; obtain ⟨A2, hA2⟩ : ∃ x, x1 * 60 = x := ⟨_, rfl⟩; obtain ⟨A3, hA3⟩ : ∃ x, A1 + A2 = x := ⟨_, rfl⟩; obtain ⟨A4, hA4⟩ : ∃ x, A3 + x2 = x := ⟨_, rfl⟩
              have w1 : IntKind.i64.wrap (x0 * 3600) = A1 := by rw [hA1]; exact IntWalk.i64_in _ (by omega)
              have w2_ : IntKind.i64.wrap (x1 * 60) = A2 := by rw [hA2]; exact IntWalk.i64_in _ (by omega)
              have w3 : IntKind.i64.wrap (A1 + A2) = A3 := by rw [hA3]; exact IntWalk.i64_in _ (by omega)
              have w4_ : IntKind.i64.wrap (A3 + x2) = A4 := by rw [hA4]; exact IntWalk.i64_in _ (by omega)
              rw [hA1, hA2, hA3, hA4] at q4b
              have hA5 : 0 ≤ A4 ∧ A4 ≤ 1000000000000 := by omega
              clear hA1 hA2 hA3 hA4 q4
              obtain ⟨b0, hb0⟩ : ∃ x, -1 * a0 = x := ⟨_, rfl⟩; have m0 : IntKind.i64.wrap (-1 * a0) = b0 := (by rw [hb0]; exact IntWalk.i64_in _ (by omega)); have n0 : IntKind.i64.wrap (-a0) = b0 := (by rw [show -a0 = -1 * a0 by omega]; exact m0); rw [hb0] at q0; clear hb0
              obtain ⟨b1, hb1⟩ : ∃ x, -1 * a1 = x := ⟨_, rfl⟩; have m1 : IntKind.i64.wrap (-1 * a1) = b1 := (by rw [hb1]; exact IntWalk.i64_in _ (by omega)); have n1 : IntKind.i64.wrap (-a1) = b1 := (by rw [show -a1 = -1 * a1 by omega]; exact m1); rw [hb1] at q1; clear hb1
              obtain ⟨b2, hb2⟩ : ∃ x, -1 * a2 = x := ⟨_, rfl⟩; have m2 : IntKind.i64.wrap (-1 * a2) = b2 := (by rw [hb2]; exact IntWalk.i64_in _ (by omega)); have n2 : IntKind.i64.wrap (-a2) = b2 := (by rw [show -a2 = -1 * a2 by omega]; exact m2); rw [hb2] at q2; clear hb2
              obtain ⟨b3, hb3⟩ : ∃ x, -1 * a3 = x := ⟨_, rfl⟩; have m3 : IntKind.i64.wrap (-1 * a3) = b3 := (by rw [hb3]; exact IntWalk.i64_in _ (by omega)); have n3 : IntKind.i64.wrap (-a3) = b3 := (by rw [show -a3 = -1 * a3 by omega]; exact m3); rw [hb3] at q3; clear hb3
              obtain ⟨b4, hb4⟩ : ∃ x, -1 * A4 = x := ⟨_, rfl⟩; have m4 : IntKind.i64.wrap (-1 * A4) = b4 := (by rw [hb4]; exact IntWalk.i64_in _ (by omega)); have n4 : IntKind.i64.wrap (-A4) = b4 := (by rw [show -A4 = -1 * A4 by omega]; exact m4); rw [hb4] at q4b; clear hb4
              have HQ := Lib.hid (And.intro qe (And.intro q0 (And.intro q1 (And.intro q2 (And.intro q3 (And.intro q4b q5))))))
              clear qe q0 q1 q2 q3 q4b q5 bl0 bh0 bl1 bh1 bl2 bh2 bl3 bh3 tl0 th0 tl1 th1 tl2 th2 hA5
              have r0 := (HG4.out.2.2.1.2 0 (by omega)).1
              have rf0 := (HG4.out.2.2.1.2 0 (by omega)).2
              have r1 := (HG4.out.2.2.1.2 1 (by omega)).1
              have rf1 := (HG4.out.2.2.1.2 1 (by omega)).2
              have r2 := (HG4.out.2.2.1.2 2 (by omega)).1
              have rf2 := (HG4.out.2.2.1.2 2 (by omega)).2
              have r3 := (HG4.out.2.2.1.2 3 (by omega)).1
              have rf3 := (HG4.out.2.2.1.2 3 (by omega)).2
              have r4 := (HG4.out.2.2.1.2 4 (by omega)).1
              have rf4 := (HG4.out.2.2.1.2 4 (by omega)).2
              obtain ⟨e0v, e0⟩ := HG4.out.2.2.2.1.2.1
              obtain ⟨e1v, e1⟩ := HG4.out.2.2.2.1.2.2.1
              have ef0 := HG4.out.2.2.2.1.2.2.2.1
              have ef1 := HG4.out.2.2.2.1.2.2.2.2
              have hlb : w.heap.size < w4.heap.size := HG4.out.2.2.1.1
              have hlb1 : w.heap.size + 1 < w4.heap.size := HG4.out.2.2.2.1.1
              have hlb2 : w2.heap.size < w4.heap.size := HG4.out.2.1.1
              have CFI : Hid (∀ w0, Calls Tryz.prog 29 #[] w0 fun e w' => e = .returned (.agg #[.int .i64 0, .int .i64 (-1)]) ∧ Below w0.heap.size w0 w') := Lib.hid fine_any
              have y0 := cell_regrown (w := w4.drewN q) (show (w4.drewN q).cell? ⟨w2.heap.size, 0, none⟩ = some _ from g0)
              have y1 := cell_regrown (w := w4.drewN q) (show (w4.drewN q).cell? ⟨w2.heap.size, 1, none⟩ = some _ from g1)
              have y2 := cell_regrown (w := w4.drewN q) (show (w4.drewN q).cell? ⟨w2.heap.size, 2, none⟩ = some _ from g2)
              have y3 := cell_regrown (w := w4.drewN q) (show (w4.drewN q).cell? ⟨w2.heap.size, 3, none⟩ = some _ from g3)
              have y4 := cell_regrown (w := w4.drewN q) (show (w4.drewN q).cell? ⟨w2.heap.size, 4, none⟩ = some _ from g4)
              have y5 := cell_regrown (w := w4.drewN q) (show (w4.drewN q).cell? ⟨w2.heap.size, 5, none⟩ = some _ from g5)
              have y6 := cell_regrown (w := w4.drewN q) (show (w4.drewN q).cell? ⟨w2.heap.size, 6, none⟩ = some _ from g6)
              refine wp_region_below_tail 30 (by kernel_rfl) (by kernel_rfl) ?_
              simp only [List.take_succ_cons, List.take_zero, List.drop_succ_cons, List.drop_zero]
              repeat (go_big_quiet_step ((go_at_call 29; exact Calls.regrown_of (CFI.out _))))
              refine wpQuiet_nil ?_
              intro w7 hb7
              have R0 := (hb7.cell (p := ⟨w.heap.size, 0, none⟩) hlb).trans r0; have RF0 := (hb7.frozen (p := ⟨w.heap.size, 0, none⟩) hlb).trans rf0; have R1 := (hb7.cell (p := ⟨w.heap.size, 1, none⟩) hlb).trans r1; have RF1 := (hb7.frozen (p := ⟨w.heap.size, 1, none⟩) hlb).trans rf1; have R2 := (hb7.cell (p := ⟨w.heap.size, 2, none⟩) hlb).trans r2; have RF2 := (hb7.frozen (p := ⟨w.heap.size, 2, none⟩) hlb).trans rf2; have R3 := (hb7.cell (p := ⟨w.heap.size, 3, none⟩) hlb).trans r3; have RF3 := (hb7.frozen (p := ⟨w.heap.size, 3, none⟩) hlb).trans rf3; have R4 := (hb7.cell (p := ⟨w.heap.size, 4, none⟩) hlb).trans r4; have RF4 := (hb7.frozen (p := ⟨w.heap.size, 4, none⟩) hlb).trans rf4; have E0 := (hb7.cell (p := ⟨w.heap.size + 1, 0, none⟩) hlb1).trans e0; have EF0 := (hb7.frozen (p := ⟨w.heap.size + 1, 0, none⟩) hlb1).trans ef0; have E1 := (hb7.cell (p := ⟨w.heap.size + 1, 1, none⟩) hlb1).trans e1; have EF1 := (hb7.frozen (p := ⟨w.heap.size + 1, 1, none⟩) hlb1).trans ef1; have G0 := (hb7.cell (p := ⟨w2.heap.size, 0, none⟩) hlb2).trans g0; have G1 := (hb7.cell (p := ⟨w2.heap.size, 1, none⟩) hlb2).trans g1; have G2 := (hb7.cell (p := ⟨w2.heap.size, 2, none⟩) hlb2).trans g2; have G3 := (hb7.cell (p := ⟨w2.heap.size, 3, none⟩) hlb2).trans g3; have G4 := (hb7.cell (p := ⟨w2.heap.size, 4, none⟩) hlb2).trans g4; have G5 := (hb7.cell (p := ⟨w2.heap.size, 5, none⟩) hlb2).trans g5; have G6 := (hb7.cell (p := ⟨w2.heap.size, 6, none⟩) hlb2).trans g6; have HB7 := Lib.hid hb7; clear hb7
              go_wp2_with fail
              have HG7 := Lib.hid ((HG4.out.drewN q).call HB7.out)
              have hq := set7_is HG7.out.2.2.1 HG7.out.2.2.2.1 (.int .i64 (b0)) (.int .i64 (b1)) (.int .i64 (b2)) (.int .i64 (b3)) (.int .i64 (b4)) (.int .i64 0) (.int .i64 (-1))
              have hbw := set7_below HG7.out.2.2.2.2.1 (.int .i64 (b0)) (.int .i64 (b1)) (.int .i64 (b2)) (.int .i64 (b3)) (.int .i64 (b4)) (.int .i64 0) (.int .i64 (-1))
              unfold set7 at hq hbw
              exact bodyPost_ret (v := .tuple #[.agg #[.int .i64 (b0), .int .i64 (b1), .int .i64 (b2), .int .i64 (b3), .int .i64 (b4)], .agg #[.int .i64 0, .int .i64 (-1)]]) (by simp [results, Tryz.results36, go_sem, hq.1, hq.2.1, hq.2.2.1, hq.2.2.2.1, hq.2.2.2.2.1, hq.2.2.2.2.2.1, hq.2.2.2.2.2.2]) rfl ⟨by unfold agg5; rw [HQ.out.1, HQ.out.2.1, HQ.out.2.2.1, HQ.out.2.2.2.1, HQ.out.2.2.2.2.1, HQ.out.2.2.2.2.2.1, HQ.out.2.2.2.2.2.2], hbw⟩
        · have hd0 : (R0 == 0) = false := by simpa using hR0
          have hd0i : ((R0 : Int) == 0) = false := by simpa using hR0
          have hR1 : 0 < R0 := by omega
          clear hR0
          by_cases hR8 : 8 < R0
          · have HE2 : Hid (R = ⟨6, K, zero⟩) := Lib.hid (by rw [← HE.out, unitsF_many (by rw [HR2.out]; exact hR8)]; exact finB_err (by show (6 : Int) ≠ 0; decide))
            have hd8 : decide (8 < R0) = true := decide_eq_true hR8
            have hd8i : decide (8 < (R0 : Int)) = true := decide_eq_true (by omega)
            go_wp2_with (first
              | (go_at_call 51; (with_reducible refine (CR.out _ HS4.out).mono ?_); rintro e w5 ⟨rfl, q, rfl⟩; have HG5 := Lib.hid (HG4.out.drewN q); obtain ⟨-, s0, s1, -⟩ := HG4.out.1))
            have r0 := (HG4.out.2.2.1.2 0 (by omega)).1
            have rf0 := (HG4.out.2.2.1.2 0 (by omega)).2
            have r1 := (HG4.out.2.2.1.2 1 (by omega)).1
            have rf1 := (HG4.out.2.2.1.2 1 (by omega)).2
            have r2 := (HG4.out.2.2.1.2 2 (by omega)).1
            have rf2 := (HG4.out.2.2.1.2 2 (by omega)).2
            have r3 := (HG4.out.2.2.1.2 3 (by omega)).1
            have rf3 := (HG4.out.2.2.1.2 3 (by omega)).2
            have r4 := (HG4.out.2.2.1.2 4 (by omega)).1
            have rf4 := (HG4.out.2.2.1.2 4 (by omega)).2
            obtain ⟨e0v, e0⟩ := HG4.out.2.2.2.1.2.1
            obtain ⟨e1v, e1⟩ := HG4.out.2.2.2.1.2.2.1
            have ef0 := HG4.out.2.2.2.1.2.2.2.1
            have ef1 := HG4.out.2.2.2.1.2.2.2.2
            go_region_with fail
            all_goals
              go_wp2_with fail
              have hq := set7_is (HG4.out.drewN (q + 1)).2.2.1 (HG4.out.drewN (q + 1)).2.2.2.1 (.int .i64 (0)) (.int .i64 (0)) (.int .i64 (0)) (.int .i64 (0)) (.int .i64 (0)) (.int .i64 6) (.int .i64 (K : Int))
              have hbw := set7_below (HG4.out.drewN (q + 1)).2.2.2.2.1 (.int .i64 (0)) (.int .i64 (0)) (.int .i64 (0)) (.int .i64 (0)) (.int .i64 (0)) (.int .i64 6) (.int .i64 (K : Int))
              unfold set7 at hq hbw
              exact bodyPost_ret (v := .tuple #[.agg #[.int .i64 (0), .int .i64 (0), .int .i64 (0), .int .i64 (0), .int .i64 (0)], .agg #[.int .i64 6, .int .i64 (K : Int)]]) (by simp [results, Tryz.results36, go_sem, hq.1, hq.2.1, hq.2.2.1, hq.2.2.2.1, hq.2.2.2.2.1, hq.2.2.2.2.2.1, hq.2.2.2.2.2.2]) rfl ⟨by rw [HE2.out]; rfl, hbw⟩
          · have hd8 : decide (8 < R0) = false := decide_eq_false hR8
            have hd8i : decide (8 < (R0 : Int)) = false := decide_eq_false (by omega)
            have CT : Hid (∀ w0, ScanAt (w.heap.size + 2) s K w0 → Calls Tryz.prog 49 #[.pointer (some ⟨w.heap.size + 2, 0, none⟩), .int .i64 (R0 : Int)] w0 (ScPost (w.heap.size + 2) s w0 (.tuple #[.int .i64 (num_ s K R0 : Nat), .bool true]) (K + R0 : Nat))) := Lib.hid fun w0 h => by
              have q := take_any (w.heap.size + 2) s K R0 R0 rfl w0 h hK hs (by omega)
              obtain ⟨q1, q2, q3⟩ := dg_yes (s := s) (k := K) (n := R0) (by rw [HR.out]; exact Nat.le_refl _)
              rw [q1, q2, q3] at q
              exact q
            have hx8 : num_ s K R0 < 10 ^ R0 := num_lt (by rw [HR.out]; exact Nat.le_refl _)
            have hx9 : 10 ^ R0 ≤ 100000000 := by have q : (10 : Nat) ^ R0 ≤ 10 ^ 8 := Nat.pow_le_pow_right (by omega) (by omega); simpa using q
            have HM : Hid (∀ K2, K + R0 = K2 → (∀ j, (hj : j < u.size) → u[j] ≠ nxt s K2) → R = ⟨5, K2, zero⟩) := Lib.hid fun K2 h1 h2 => by rw [← HE.out, miss HL.out HR2.out hR1 (by omega) h1 h2]; exact finB_err (by show (5 : Int) ≠ 0; decide)
            have HH : Hid (∀ K2 i, K + R0 = K2 → (hi : i < u.size) → u[i] = nxt s K2 → (∀ j, (hj : j < u.size) → j < i → u[j] ≠ nxt s K2) → K2 < s.size ∧ finB s.data.toList v (unitsF s.data.toList hms f (nx + i + 1) (K2 + 1) (upd t (nx + i) (num_ s K R0 : Nat)) true) = R) := Lib.hid fun K2 i h1 h2 h3 h4 => by have q := hit (f := f) (v := t) (sb := sb) HL.out HR2.out hR1 (by omega) h1 h2 h3 h4; exact ⟨q.1, by rw [← q.2]; exact HE.out⟩
            obtain ⟨X, hX⟩ : ∃ X, num_ s K R0 = X := ⟨_, rfl⟩
            obtain ⟨K2, hK2⟩ : ∃ K2, K + R0 = K2 := ⟨_, rfl⟩
            rw [hX] at CT HH hx8
            rw [hK2] at CT hRs
            have HX8 : Hid (X < 100000000) := Lib.hid (Nat.lt_of_lt_of_le hx8 hx9)
            have HK2 := Lib.hid hK2
            clear hX hK2 hx8 hx9
            unfold ScPost at CT
            have hu10 : u.size ≤ 10 := by omega
            have HUS := Lib.hid hus; clear hus
            obtain ⟨c, hc⟩ : ∃ c, nxt s K2 = c := ⟨_, rfl⟩
            have HC := Lib.hid hc
            have CN : Hid (∀ w0, ScanAt (w.heap.size + 2) s K2 w0 → Calls Tryz.prog 48 #[.pointer (some ⟨w.heap.size + 2, 0, none⟩)] w0 fun e w' => e = .returned (.int .u8 (c.toNat : Int)) ∧ ∃ m, w' = w0.drewN m) := Lib.hid fun w0 h => hc ▸ next_any (w.heap.size + 2) s K2 w0 h
            clear hc
            go_wp2_with (first
              | (go_at_call 51; (with_reducible refine (CR.out _ HS4.out).mono ?_); rintro e w5 ⟨rfl, q, rfl⟩; have HG5 := Lib.hid (HG4.out.drewN q); obtain ⟨-, s0, s1, -⟩ := HG4.out.1)
              | (go_at_call 49; (with_reducible refine (CT.out _ (HS4.out.drewN _)).mono ?_); rintro e w6 ⟨rfl, hS, hO⟩; have HG6 := Lib.hid (HG5.out.move hS hO); clear hS hO s0 s1))
            go_loopw [13] (fun ci wr => ∃ i : Nat, ci = .int .i64 (i : Int) ∧ i ≤ u.size ∧ Hid (∀ j, (hj : j < u.size) → j < i → u[j] ≠ c) ∧ Hid (GS w w2.heap.size s K2 (glue v t) wr)) (fun ci _ => u.size - (intOf ci).toNat)
            case atStart => exact ⟨0, rfl, by omega, Lib.hid fun j _ h => absurd h (Nat.not_lt_zero j), HG6⟩
            case round =>
              clear HG6
              obtain ⟨i, rfl, hi, HN, HG6⟩ := hrel
              obtain ⟨wB, hwB⟩ : ∃ wB : World, wB = wr := ⟨_, rfl⟩
              subst hwB
              have CN2 : Hid (∀ m, Calls Tryz.prog 48 #[.pointer (some ⟨w.heap.size + 2, 0, none⟩)] (wB.drewN m) fun e w' => e = .returned (.int .u8 (c.toNat : Int)) ∧ ∃ q, w' = (wB.drewN m).drewN q) := Lib.hid fun m => CN.out _ (HG6.out.1.drewN m)
              by_cases hiu : i < u.size
              · have hd : decide (i < u.size) = true := decide_eq_true hiu
                have hdi : decide ((i : Int) < (u.size : Int)) = true := decide_eq_true (by omega)
                by_cases hci : u[i] = c
                · obtain ⟨hlt, hE2⟩ := HH.out K2 i HK2.out hiu (by rw [HC.out]; exact hci) (by rw [HC.out]; exact HN.out)
                  have HE2 := Lib.hid hE2; clear hE2
                  have n1 : ((u[i].toNat : Int) != (c.toNat : Int)) = false := by rw [hci]; simp
                  have n2 : ((u[i].toNat : Int) == (c.toNat : Int)) = true := by rw [hci]; simp
                  have HCI := Lib.hid hci; clear hci
                  have nl1 : (i == u.size) = false := by simp; omega
                  have nl2 : ((i : Int) == (u.size : Int)) = false := by simp; omega
                  obtain ⟨J, hJ⟩ : ∃ J, 4 + (nx + i) = J := ⟨_, rfl⟩
                  have hJ7 : J < 7 := by have := HUS.out; omega
                  have j1 : 4 + (i : Int) + 3 - (u.size : Int) = (J : Int) := by have := HUS.out; omega
                  have j2 : (4 : Int) + (i : Int) + 3 - (u.size : Int) = (J : Int) := by have := HUS.out; omega
                  have HJ := Lib.hid hJ; clear hJ
                  have rJ := (HG6.out.2.1.2 J hJ7).1; have rJf := (HG6.out.2.1.2 J hJ7).2
                  have hne : w2.heap.size ≠ w.heap.size + 2 := by have := HG6.out.2.2.2.2.2; omega
                  obtain ⟨-, s0, s1, sf⟩ := HG6.out.1
                  have CL : Hid (∀ w0, Calls Tryz.prog 65 #[.int .i64 4] w0 fun e w' => e = .returned (.int .i64 3) ∧ w' = w0) := Lib.hid longer_B
                  go_wp2_with fail
                  go_quiet ((go_at_call 48; exact Calls.quiet_of (CN2.out _)))
                  go_wp2_with (go_at_call 65; (with_reducible refine (CL.out _).mono ?_); rintro e w7 ⟨rfl, rfl⟩)
                  go_roundw
                  case rel => exact .inr ⟨_, nx + i + 1, K2 + 1, f, v, upd t (nx + i) (X : Nat), true, rfl, rfl, rfl, by have := HUS.out; omega, by have := HUS.out; omega, by have := HUS.out; simp [ByteArray.size_extract]; omega, hlt, Lib.hid HL.out.next, HE2, Lib.hid (by have e := HJ.out; subst e; exact (((HG6.out.drewN _).at _).put _ _).eqg (upd_glue _ _ _ _)), Lib.hid fun j => by have h := HV.out j; unfold upd; by_cases e : j = nx + i; (rw [if_pos e]; exact ⟨h.1, h.2.1, by omega, by have := HX8.out; omega⟩); (rw [if_neg e]; exact h)⟩
                  case measure => exact inMs_u (by simp [ByteArray.size_extract]; omega)
                · have n1 : ((u[i].toNat : Int) != (c.toNat : Int)) = true := by have q := byte_eq u[i] c; simp only [bne, q]; simpa using hci
                  have n2 : ((u[i].toNat : Int) == (c.toNat : Int)) = false := by rw [byte_eq]; simpa using hci
                  have HN2 : Hid (∀ j, (hj : j < u.size) → j < i + 1 → u[j] ≠ c) := Lib.hid fun j hj h => by
                    by_cases e : j = i
                    · subst e; exact hci
                    · exact HN.out j hj (by omega)
                  clear hci
                  go_wp2_with fail
                  go_quiet ((go_at_call 48; exact Calls.quiet_of (CN2.out _)))
                  go_wp2_with fail
                  go_roundw
                  case rel => exact ⟨i + 1, by go_num, by omega, HN2, Lib.hid (HG6.out.drewN _)⟩
                  case measure => simp [intOf]; omega
              · obtain rfl : u.size = i := by omega
                have hd : decide (u.size < u.size) = false := by simp
                have hdi : decide ((u.size : Int) < (u.size : Int)) = false := by simp
                have HE2 := Lib.hid (HM.out K2 HK2.out (fun j hj => by rw [HC.out]; exact HN.out j hj hj))
                have CF : Hid (∀ w0, ScanAt (w.heap.size + 2) s K2 w0 → Calls Tryz.prog 26 #[.pointer (some ⟨w.heap.size + 2, 0, none⟩)] w0 fun e w' => e = .returned (.agg #[.int .i64 5, .int .i64 (K2 : Int)]) ∧ Below w0.heap.size w0 w') := Lib.hid fun w0 h => form_any (w.heap.size + 2) s K2 w0 h
                go_wp2_with fail
                go_quiet (fail)
                have HGS6 := Lib.hid HG6.out.1
                go_wp2_with (go_at_call 26; (with_reducible refine (CF.out _ (HGS6.out.drewN _)).mono ?_); rintro e wz ⟨rfl, hbz⟩; have HGz := Lib.hid ((HG6.out.drewN _).call hbz); clear hbz; have r0 := (HGz.out.2.2.1.2 0 (by omega)).1; have rf0 := (HGz.out.2.2.1.2 0 (by omega)).2; have r1 := (HGz.out.2.2.1.2 1 (by omega)).1; have rf1 := (HGz.out.2.2.1.2 1 (by omega)).2; have r2 := (HGz.out.2.2.1.2 2 (by omega)).1; have rf2 := (HGz.out.2.2.1.2 2 (by omega)).2; have r3 := (HGz.out.2.2.1.2 3 (by omega)).1; have rf3 := (HGz.out.2.2.1.2 3 (by omega)).2; have r4 := (HGz.out.2.2.1.2 4 (by omega)).1; have rf4 := (HGz.out.2.2.1.2 4 (by omega)).2; obtain ⟨e0v, e0⟩ := HGz.out.2.2.2.1.2.1; obtain ⟨e1v, e1⟩ := HGz.out.2.2.2.1.2.2.1; have ef0 := HGz.out.2.2.2.1.2.2.2.1; have ef1 := HGz.out.2.2.2.1.2.2.2.2)
                have hq := set7_is HGz.out.2.2.1 HGz.out.2.2.2.1 (.int .i64 (0)) (.int .i64 (0)) (.int .i64 (0)) (.int .i64 (0)) (.int .i64 (0)) (.int .i64 5) (.int .i64 (K2 : Int))
                have hbw := set7_below HGz.out.2.2.2.2.1 (.int .i64 (0)) (.int .i64 (0)) (.int .i64 (0)) (.int .i64 (0)) (.int .i64 (0)) (.int .i64 5) (.int .i64 (K2 : Int))
                unfold set7 at hq hbw
                exact bodyPost_ret (v := .tuple #[.agg #[.int .i64 (0), .int .i64 (0), .int .i64 (0), .int .i64 (0), .int .i64 (0)], .agg #[.int .i64 5, .int .i64 (K2 : Int)]]) (by simp [results, Tryz.results36, go_sem, hq.1, hq.2.1, hq.2.2.1, hq.2.2.2.1, hq.2.2.2.2.1, hq.2.2.2.2.2.1, hq.2.2.2.2.2.2]) rfl ⟨by rw [HE2.out]; rfl, hbw⟩
end Go.Proofs.YtkfpnlenmdlmjaaGreatDoor
