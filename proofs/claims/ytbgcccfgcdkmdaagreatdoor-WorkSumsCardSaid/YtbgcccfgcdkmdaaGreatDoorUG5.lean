/- The document's NewDays. The document's NewDays. -/
import Derived.Test.YtbgcccfgcdkmdaaGreatDoorWrkF
import Derived.Test.YtbgcccfgcdkmdaaGreatDoorDaysP
import Derived.Test.YtbgcccfgcdkmdaaGreatDoorDaysV
import Derived.Test.YtbgcccfgcdkmdaaGreatDoorDaysH
import Derived.Deep.CutRange
import Derived.Test.YtbgcccfgcdkmdaaGreatDoorQTail
import Derived.Deep.QuietTactic
import Derived.BigQuiet
namespace Go.Proofs.YtbgcccfgcdkmdaaGreatDoor
open Go.RowKit Wrk
def dateC (c : Int) (p : Int × Int × Int) : List Value := [.int .i64 c, .int .i64 p.1, .int .i64 p.2.1, .int .i64 p.2.2]
def flatD (c : Int) (L : List (Int × Int × Int)) : List Value := L.flatMap (dateC c)
theorem flatD_snoc (c : Int) (L : List (Int × Int × Int)) (p : Int × Int × Int) : flatD c (L ++ [p]) = flatD c L ++ dateC c p := by simp [flatD]
/-- A list of dates of the call's own. -/
def DateL (w : World) (b : Nat) (c : Int) (v : Value) (L : List (Int × Int × Int)) : Prop := w.ownsRow b 89 4 v L.length (flatD c L)
def Daily (c a : Int) (L : List (Int × Int × Int)) : Prop := ∀ j, j < L.length → Dm.Valid c (L.getD j (0, 0, 0)).1 (L.getD j (0, 0, 0)).2.1 (L.getD j (0, 0, 0)).2.2 ∧ Dm.dayOf c (L.getD j (0, 0, 0)).1 (L.getD j (0, 0, 0)).2.1 (L.getD j (0, 0, 0)).2.2 = a + j
theorem Tryz.infoDate : (Tryz.prog.info? 89).map (fun i => (i.zero, i.size, i.bytes)) = some (some (.agg #[.int .i64 0, .int .i64 0, .int .i64 0, .int .i64 0]), 4, 32) := by kernel_rfl
theorem frozen_below {B : Nat} {w w' : World} (h : Below B w w') {p : Addr} (hp : p.block < B) : w'.frozen? p = w.frozen? p := by simp [World.frozen?, h.block _ hp]
theorem flatD_get (c : Int) : ∀ (l : List (Int × Int × Int)) (i j : Nat), i < l.length → j < 4 → (flatD c l)[i * 4 + j]? = (dateC c (l.getD i (0, 0, 0)))[j]? := by
  intro l
  induction l with
  | nil => intro i j h; simp at h
  | cons b l ih =>
    intro i j h hj
    unfold flatD
    rw [List.flatMap_cons]
    cases i with
    | zero => rw [List.getElem?_append_left (by simp [dateC]; omega)]; simp
    | succ i =>
      rw [List.getElem?_append_right (by simp [dateC]; omega)]
      have := ih i j (by simpa using h) hj
      unfold flatD at this
      rw [show (i + 1) * 4 + j - (dateC c b).length = i * 4 + j by simp [dateC]; omega, this]
      simp
theorem DateL.form {w : World} {b : Nat} {c : Int} {v : Value} {L : List (Int × Int × Int)} (h : DateL w b c v L) : ∃ oa cap, v = .slice oa L.length cap := by
  rcases h.2 with ⟨rfl, h0⟩ | ⟨g, cap, cur, rfl, _⟩
  · exact ⟨none, 0, by rw [h0]⟩
  · exact ⟨_, cap, rfl⟩
theorem DateL.call {w w' : World} {b : Nat} {c : Int} {v : Value} {L : List (Int × Int × Int)} (h : DateL w b c v L) (hb : Below w.heap.size w w') : DateL w' b c v L :=
  World.ownsRow.kept (row := none) h ⟨hb.os, hb.tape, hb.output, hb.size, fun k hk _ => hb.block k hk⟩ (by cases hv : v.ownBlock <;> simp)
theorem DateL.at {w : World} {b : Nat} {c : Int} {oa : Option Addr} {n cap : Nat} {L : List (Int × Int × Int)} (h : DateL w b c (.slice oa n cap) L) {k : Nat} (hk : k < L.length) :
    ∃ g, oa = some ⟨g, 0, none⟩ ∧ b ≤ g ∧ g < w.heap.size ∧ w.cell? ⟨g, k * 4, none⟩ = some (.int .i64 c) ∧ w.cell? ⟨g, k * 4 + 1, none⟩ = some (.int .i64 (L.getD k (0, 0, 0)).1) ∧ w.cell? ⟨g, k * 4 + 2, none⟩ = some (.int .i64 (L.getD k (0, 0, 0)).2.1) ∧ w.cell? ⟨g, k * 4 + 3, none⟩ = some (.int .i64 (L.getD k (0, 0, 0)).2.2) := by
  obtain ⟨g, cc, e, hb, hg⟩ := World.ownsRow.form h (by omega)
  cases e
  have hc : ∀ j u, j < 4 → (dateC c (L.getD k (0, 0, 0)))[j]? = some u → w.cell? ⟨g, k * 4 + j, none⟩ = some u := fun j u hj hu => by
    have h1 := World.ownsRow.cells h (g := g) rfl (k * 4 + j) u ((flatD_get c L k j hk hj).trans hu)
    rwa [Addr.add_lit, Nat.zero_add] at h1
  exact ⟨g, rfl, hb, hg, hc 0 _ (by decide) rfl, hc 1 _ (by decide) rfl, hc 2 _ (by decide) rfl, hc 3 _ (by decide) rfl⟩
/-- NewDays' memory: the date at z7, the days at z9, the lengths of year yl at B. -/
structure NdH (c a : Int) (z6 z7 z9 : Nat) (wr : World) (B n : Nat) (yl y m d : Int) (vl : Value) (L : List (Int × Int × Int)) : Prop where
  mon : (n : Int) = Dm.months c yl
  z76 : z6 < z7
  z97 : z7 < z9
  low : z9 < B
  high : B < wr.heap.size
  len : ∀ i : Nat, i < n → wr.cell? ⟨B, i, none⟩ = some (.int .i64 (Dm.length c yl (i + 1)))
  list : DateL wr (z9 + 1) c vl L
  apart : ∀ q, vl.ownBlock = some q → q ≠ B
  daily : Daily c a L
  c0 : wr.cell? ⟨z7, 0, none⟩ = some (.int .i64 c)
  c1 : wr.cell? ⟨z7, 1, none⟩ = some (.int .i64 y)
  c2 : wr.cell? ⟨z7, 2, none⟩ = some (.int .i64 m)
  c3 : wr.cell? ⟨z7, 3, none⟩ = some (.int .i64 d)
  fz : ∀ k, k < 4 → wr.frozen? ⟨z7, k, none⟩ = false
  d0 : wr.cell? ⟨z9, 0, none⟩ = some (.int .i64 a)
  d1 : wr.cell? ⟨z9, 1, none⟩ = some vl
  fy : ∀ k, k < 2 → wr.frozen? ⟨z9, k, none⟩ = false
  f6 : ∀ k, k < 2 → wr.frozen? ⟨z6, k, none⟩ = false
  e6 : ∃ u0 u1, wr.cell? ⟨z6, 0, none⟩ = some u0 ∧ wr.cell? ⟨z6, 1, none⟩ = some u1
theorem NdH.call {c a : Int} {z6 z7 z9 : Nat} {wr w' : World} {B n : Nat} {yl y m d : Int} {vl : Value} {L : List (Int × Int × Int)} (h : NdH c a z6 z7 z9 wr B n yl y m d vl L) (hb : Below wr.heap.size wr w') : NdH c a z6 z7 z9 w' B n yl y m d vl L := by
  have l9 : z9 < wr.heap.size := Nat.lt_trans h.low h.high
  have l7 := Nat.lt_trans h.z97 l9
  have l6 := Nat.lt_trans h.z76 l7
  exact
  { mon := h.mon, z76 := h.z76, z97 := h.z97, low := h.low, high := Nat.lt_of_lt_of_le h.high hb.size
    len := fun i hi => (hb.cell (p := ⟨B, i, none⟩) h.high).trans (h.len i hi)
    list := World.ownsRow.kept (row := none) h.list ⟨hb.os, hb.tape, hb.output, hb.size, fun k hk _ => hb.block k hk⟩ (by cases hv : vl.ownBlock <;> simp)
    apart := h.apart, daily := h.daily
    c0 := (hb.cell (p := ⟨z7, 0, none⟩) l7).trans h.c0
    c1 := (hb.cell (p := ⟨z7, 1, none⟩) l7).trans h.c1
    c2 := (hb.cell (p := ⟨z7, 2, none⟩) l7).trans h.c2
    c3 := (hb.cell (p := ⟨z7, 3, none⟩) l7).trans h.c3
    fz := fun k hk => (frozen_below hb (p := ⟨z7, k, none⟩) l7).trans (h.fz k hk)
    d0 := (hb.cell (p := ⟨z9, 0, none⟩) l9).trans h.d0
    d1 := (hb.cell (p := ⟨z9, 1, none⟩) l9).trans h.d1
    fy := fun k hk => (frozen_below hb (p := ⟨z9, k, none⟩) l9).trans (h.fy k hk)
    f6 := fun k hk => (frozen_below hb (p := ⟨z6, k, none⟩) l6).trans (h.f6 k hk)
    e6 := by
      obtain ⟨u0, u1, h0, h1⟩ := h.e6
      exact ⟨u0, u1, (hb.cell (p := ⟨z6, 0, none⟩) l6).trans h0, (hb.cell (p := ⟨z6, 1, none⟩) l6).trans h1⟩ }
/-- What a store into the date leaves. -/
theorem set_other {w : World} {p : Addr} {u : Value} {q : Addr} (h : q.block ≠ p.block) : (w.setCell p u).cell? q = w.cell? q ∧ (w.setCell p u).frozen? q = w.frozen? q := by
  have e := Below.heap_setCell w p u q.block h
  exact ⟨World.cell?_of_block e, by simp [World.frozen?, e]⟩
theorem NdH.set1 {c a : Int} {z6 z7 z9 : Nat} {wr : World} {B n : Nat} {yl y m d : Int} {vl : Value} {L : List (Int × Int × Int)} (h : NdH c a z6 z7 z9 wr B n yl y m d vl L) (v : Int) : NdH c a z6 z7 z9 (wr.setCell ⟨z7, 1, none⟩ (.int .i64 v)) B n yl v m d vl L := by
  have hb := h.low
  have h97 := h.z97
  have h76 := h.z76
  have o9 : ∀ k, (wr.setCell ⟨z7, 1, none⟩ (.int .i64 v)).cell? ⟨z9, k, none⟩ = wr.cell? ⟨z9, k, none⟩ ∧ (wr.setCell ⟨z7, 1, none⟩ (.int .i64 v)).frozen? ⟨z9, k, none⟩ = wr.frozen? ⟨z9, k, none⟩ := fun k => set_other (by show z9 ≠ z7; omega)
  have o6 : ∀ k, (wr.setCell ⟨z7, 1, none⟩ (.int .i64 v)).cell? ⟨z6, k, none⟩ = wr.cell? ⟨z6, k, none⟩ ∧ (wr.setCell ⟨z7, 1, none⟩ (.int .i64 v)).frozen? ⟨z6, k, none⟩ = wr.frozen? ⟨z6, k, none⟩ := fun k => set_other (by show z6 ≠ z7; omega)
  have e0 := h.c0
  have e1 := h.c1
  have e2 := h.c2
  have e3 := h.c3
  exact
  { mon := h.mon, z76 := h.z76, z97 := h.z97, low := h.low, high := by have := h.high; simpa using this
    len := fun i hi => (set_other (by show B ≠ z7; omega)).1.trans (h.len i hi)
    list := ownsRow_setCell_other h.list (fun e => by have := (h.list.lt _ e).1; simp at this; omega) _
    apart := h.apart, daily := h.daily
    c0 := (World.cell?_setCell_other _ _ _ _ (by simp)).trans e0
    c1 := World.cell?_setCell_same _ _ _ e1
    c2 := (World.cell?_setCell_other _ _ _ _ (by simp)).trans e2
    c3 := (World.cell?_setCell_other _ _ _ _ (by simp)).trans e3
    fz := fun k hk => by have := h.fz k hk; simpa using this
    d0 := (o9 0).1.trans h.d0
    d1 := (o9 1).1.trans h.d1
    fy := fun k hk => (o9 k).2.trans (h.fy k hk)
    f6 := fun k hk => (o6 k).2.trans (h.f6 k hk)
    e6 := by
      obtain ⟨u0, u1, h0, h1⟩ := h.e6
      exact ⟨u0, u1, (o6 0).1.trans h0, (o6 1).1.trans h1⟩ }
theorem NdH.set2 {c a : Int} {z6 z7 z9 : Nat} {wr : World} {B n : Nat} {yl y m d : Int} {vl : Value} {L : List (Int × Int × Int)} (h : NdH c a z6 z7 z9 wr B n yl y m d vl L) (v : Int) : NdH c a z6 z7 z9 (wr.setCell ⟨z7, 2, none⟩ (.int .i64 v)) B n yl y v d vl L := by
  have hb := h.low
  have h97 := h.z97
  have h76 := h.z76
  have o9 : ∀ k, (wr.setCell ⟨z7, 2, none⟩ (.int .i64 v)).cell? ⟨z9, k, none⟩ = wr.cell? ⟨z9, k, none⟩ ∧ (wr.setCell ⟨z7, 2, none⟩ (.int .i64 v)).frozen? ⟨z9, k, none⟩ = wr.frozen? ⟨z9, k, none⟩ := fun k => set_other (by show z9 ≠ z7; omega)
  have o6 : ∀ k, (wr.setCell ⟨z7, 2, none⟩ (.int .i64 v)).cell? ⟨z6, k, none⟩ = wr.cell? ⟨z6, k, none⟩ ∧ (wr.setCell ⟨z7, 2, none⟩ (.int .i64 v)).frozen? ⟨z6, k, none⟩ = wr.frozen? ⟨z6, k, none⟩ := fun k => set_other (by show z6 ≠ z7; omega)
  have e0 := h.c0
  have e1 := h.c1
  have e2 := h.c2
  have e3 := h.c3
  exact
  { mon := h.mon, z76 := h.z76, z97 := h.z97, low := h.low, high := by have := h.high; simpa using this
    len := fun i hi => (set_other (by show B ≠ z7; omega)).1.trans (h.len i hi)
    list := ownsRow_setCell_other h.list (fun e => by have := (h.list.lt _ e).1; simp at this; omega) _
    apart := h.apart, daily := h.daily
    c0 := (World.cell?_setCell_other _ _ _ _ (by simp)).trans e0
    c1 := (World.cell?_setCell_other _ _ _ _ (by simp)).trans e1
    c2 := World.cell?_setCell_same _ _ _ e2
    c3 := (World.cell?_setCell_other _ _ _ _ (by simp)).trans e3
    fz := fun k hk => by have := h.fz k hk; simpa using this
    d0 := (o9 0).1.trans h.d0
    d1 := (o9 1).1.trans h.d1
    fy := fun k hk => (o9 k).2.trans (h.fy k hk)
    f6 := fun k hk => (o6 k).2.trans (h.f6 k hk)
    e6 := by
      obtain ⟨u0, u1, h0, h1⟩ := h.e6
      exact ⟨u0, u1, (o6 0).1.trans h0, (o6 1).1.trans h1⟩ }
theorem NdH.set3 {c a : Int} {z6 z7 z9 : Nat} {wr : World} {B n : Nat} {yl y m d : Int} {vl : Value} {L : List (Int × Int × Int)} (h : NdH c a z6 z7 z9 wr B n yl y m d vl L) (v : Int) : NdH c a z6 z7 z9 (wr.setCell ⟨z7, 3, none⟩ (.int .i64 v)) B n yl y m v vl L := by
  have hb := h.low
  have h97 := h.z97
  have h76 := h.z76
  have o9 : ∀ k, (wr.setCell ⟨z7, 3, none⟩ (.int .i64 v)).cell? ⟨z9, k, none⟩ = wr.cell? ⟨z9, k, none⟩ ∧ (wr.setCell ⟨z7, 3, none⟩ (.int .i64 v)).frozen? ⟨z9, k, none⟩ = wr.frozen? ⟨z9, k, none⟩ := fun k => set_other (by show z9 ≠ z7; omega)
  have o6 : ∀ k, (wr.setCell ⟨z7, 3, none⟩ (.int .i64 v)).cell? ⟨z6, k, none⟩ = wr.cell? ⟨z6, k, none⟩ ∧ (wr.setCell ⟨z7, 3, none⟩ (.int .i64 v)).frozen? ⟨z6, k, none⟩ = wr.frozen? ⟨z6, k, none⟩ := fun k => set_other (by show z6 ≠ z7; omega)
  have e0 := h.c0
  have e1 := h.c1
  have e2 := h.c2
  have e3 := h.c3
  exact
  { mon := h.mon, z76 := h.z76, z97 := h.z97, low := h.low, high := by have := h.high; simpa using this
    len := fun i hi => (set_other (by show B ≠ z7; omega)).1.trans (h.len i hi)
    list := ownsRow_setCell_other h.list (fun e => by have := (h.list.lt _ e).1; simp at this; omega) _
    apart := h.apart, daily := h.daily
    c0 := (World.cell?_setCell_other _ _ _ _ (by simp)).trans e0
    c1 := (World.cell?_setCell_other _ _ _ _ (by simp)).trans e1
    c2 := (World.cell?_setCell_other _ _ _ _ (by simp)).trans e2
    c3 := World.cell?_setCell_same _ _ _ e3
    fz := fun k hk => by have := h.fz k hk; simpa using this
    d0 := (o9 0).1.trans h.d0
    d1 := (o9 1).1.trans h.d1
    fy := fun k hk => (o9 k).2.trans (h.fy k hk)
    f6 := fun k hk => (o6 k).2.trans (h.f6 k hk)
    e6 := by
      obtain ⟨u0, u1, h0, h1⟩ := h.e6
      exact ⟨u0, u1, (o6 0).1.trans h0, (o6 1).1.trans h1⟩ }
/-- Behind the append and the store into z9. -/
theorem NdH.append {c a : Int} {z6 z7 z9 : Nat} {wr w5 : World} {B n : Nat} {yl y m d : Int} {vl : Value} {L : List (Int × Int × Int)} (h : NdH c a z6 z7 z9 wr B n yl y m d vl L) {o : Obj} {g5 c5 : Nat} {p : Int × Int × Int}
    (hown : w5.ownsRow (z9 + 1) 89 4 (.slice (some ⟨g5, 0, none⟩) (L.length + 1) c5) (L.length + 1) (flatD c L ++ dateC c p)) (hgrow : (wr.alloc o).grownBy w5 vl.ownBlock) (hat : vl.ownBlock = some g5 ∨ g5 = wr.heap.size + 1)
    (hp : Dm.Valid c p.1 p.2.1 p.2.2 ∧ Dm.dayOf c p.1 p.2.1 p.2.2 = a + L.length) :
    NdH c a z6 z7 z9 (w5.setCell ⟨z9, 1, none⟩ (.slice (some ⟨g5, 0, none⟩) (L.length + 1) c5)) B n yl y m d (.slice (some ⟨g5, 0, none⟩) (L.length + 1) c5) (L ++ [p]) := by
  have hlow := h.low
  have h97 := h.z97
  have h76 := h.z76
  have hhi := h.high
  have hsz := hgrow.size
  simp at hsz
  have own : ∀ k, k ≤ z9 ∨ k = B → k < wr.heap.size → w5.heap[k]? = wr.heap[k]? := fun k hk hlt => by
    refine (hgrow.block k (by simp; omega) (fun e => ?_)).trans (heap_alloc_old _ _ hlt)
    have h1 := (h.list.lt _ e.symm).1
    have h2 := h.apart _ e.symm
    omega
  have at5 : ∀ k q, k ≤ z9 ∨ k = B → k < wr.heap.size → w5.cell? ⟨k, q, none⟩ = wr.cell? ⟨k, q, none⟩ ∧ w5.frozen? ⟨k, q, none⟩ = wr.frozen? ⟨k, q, none⟩ := fun k q hk hlt => ⟨World.cell?_of_block (own k hk hlt), by simp [World.frozen?, own k hk hlt]⟩
  have at6 : ∀ k q, k < z9 ∨ k = B → k < wr.heap.size → (w5.setCell ⟨z9, 1, none⟩ (.slice (some ⟨g5, 0, none⟩) (L.length + 1) c5)).cell? ⟨k, q, none⟩ = wr.cell? ⟨k, q, none⟩ ∧ (w5.setCell ⟨z9, 1, none⟩ (.slice (some ⟨g5, 0, none⟩) (L.length + 1) c5)).frozen? ⟨k, q, none⟩ = wr.frozen? ⟨k, q, none⟩ := fun k q hk hlt => by
    have s := set_other (w := w5) (p := ⟨z9, 1, none⟩) (u := .slice (some ⟨g5, 0, none⟩) (L.length + 1) c5) (q := ⟨k, q, none⟩) (by show k ≠ z9; omega)
    have s5 := at5 k q (by omega) hlt
    exact ⟨s.1.trans s5.1, s.2.trans s5.2⟩
  exact
  { mon := h.mon, z76 := h.z76, z97 := h.z97, low := h.low, high := by simp; omega
    len := fun i hi => (at6 B i (.inr rfl) hhi).1.trans (h.len i hi)
    list := by
      refine ownsRow_setCell_other ?_ (fun e => by have := (hown.lt _ e).1; simp at this; omega) _
      rw [flatD_snoc, List.length_append]
      exact hown
    apart := fun q hq => by
      have e : g5 = q := by simpa [Value.ownBlock] using hq
      subst e
      rcases hat with h1 | h1
      · exact h.apart _ h1
      · omega
    daily := fun j hj => by
      by_cases hjl : j < L.length
      · have e : (L ++ [p]).getD j (0, 0, 0) = L.getD j (0, 0, 0) := by simp [List.getD_eq_getElem?_getD, List.getElem?_append_left hjl]
        rw [e]; exact h.daily j hjl
      · have e : j = L.length := by simp at hj; omega
        subst e
        have e2 : (L ++ [p]).getD L.length (0, 0, 0) = p := by simp [List.getD_eq_getElem?_getD]
        rw [e2]; exact hp
    c0 := (at6 z7 0 (by omega) (by omega)).1.trans h.c0
    c1 := (at6 z7 1 (by omega) (by omega)).1.trans h.c1
    c2 := (at6 z7 2 (by omega) (by omega)).1.trans h.c2
    c3 := (at6 z7 3 (by omega) (by omega)).1.trans h.c3
    fz := fun k hk => (at6 z7 k (by omega) (by omega)).2.trans (h.fz k hk)
    d0 := (World.cell?_setCell_other _ _ _ _ (by simp)).trans ((at5 z9 0 (by omega) (by omega)).1.trans h.d0)
    d1 := World.cell?_setCell_same _ _ _ ((at5 z9 1 (by omega) (by omega)).1.trans h.d1)
    fy := fun k hk => by rw [World.frozen?_setCell]; exact (at5 z9 k (by omega) (by omega)).2.trans (h.fy k hk)
    f6 := fun k hk => (at6 z6 k (by omega) (by omega)).2.trans (h.f6 k hk)
    e6 := by
      obtain ⟨u0, u1, h0, h1⟩ := h.e6
      exact ⟨u0, u1, (at6 z6 0 (by omega) (by omega)).1.trans h0, (at6 z6 1 (by omega) (by omega)).1.trans h1⟩ }
/-- The lengths of another year. -/
theorem NdH.lens {c a : Int} {z6 z7 z9 : Nat} {wr w' : World} {B n B2 n2 : Nat} {yl y2 y m d : Int} {vl : Value} {L : List (Int × Int × Int)} (h : NdH c a z6 z7 z9 wr B n yl y m d vl L) (hb : Below wr.heap.size wr w')
    (hn : (n2 : Int) = Dm.months c y2) (h1 : wr.heap.size ≤ B2) (h2 : B2 < w'.heap.size) (hl : ∀ i : Nat, i < n2 → w'.cell? ⟨B2, i, none⟩ = some (.int .i64 (Dm.length c y2 (i + 1)))) : NdH c a z6 z7 z9 w' B2 n2 y2 y m d vl L :=
  { h.call hb with
    mon := hn
    low := by have := h.low; have := h.high; omega
    high := h2
    len := hl
    apart := fun q hq => by have := (h.list.lt q hq).2; omega }
end Go.Proofs.YtbgcccfgcdkmdaaGreatDoor
namespace Go.Proofs.YtbgcccfgcdkmdaaGreatDoor
open Go.RowKit Wrk
set_option maxRecDepth 100000 in
set_option maxHeartbeats 16000000 in
theorem NewDays_any (c a : Int) (N : Nat) (w : World) (c1 : 1 ≤ c) (c2 : c ≤ 10) (a1 : -4000000 ≤ a) (a2 : a + N ≤ 4000000) (hN : N ≤ 400) :
    Calls Tryz.prog 68 #[.int .i64 c, .int .i64 a, .int .i64 (N : Int)] w fun e w' => ∃ v L, e = .returned (.agg #[.int .i64 a, v]) ∧ DateL w' w.heap.size c v L ∧ L.length = N ∧ Daily c a L ∧ Below w.heap.size w w' := by
  obtain ⟨i0, hi0, hz0, hz1, hz2⟩ := info_parts Tryz.infoDate
  have CO : Hid (∀ w0, Calls Tryz.prog 79 #[.int .i64 c, .int .i64 a] w0 (fun e w' => (∃ Y m0 d0, e = .returned (.tuple #[.agg #[.int .i64 c, .int .i64 Y, .int .i64 m0, .int .i64 d0], .int .i64 0]) ∧ Dm.Valid c Y m0 d0 ∧ Dm.dayOf c Y m0 d0 = a) ∧ Below w0.heap.size w0 w')) := Lib.hid fun w0 => (refOf_all c a w0).mono fun e w' ⟨ca, Y, m, d, g1, g2, g3⟩ => by
    have e0 := ofE_ok c1 c2 (n := a) (by omega) (by omega)
    rcases g2 with ⟨g, -⟩ | ⟨-, ga, -, -, gv, gd⟩
    · exact absurd e0 g
    · subst ga
      exact ⟨⟨Y, m, d, by rw [g1, e0]; rfl, gv, gd⟩, g3⟩
  obtain ⟨wA, hwA⟩ : ∃ W, w.alloc (.cells #[.int .i64 0, .slice none 0 0] 114) = W := ⟨_, rfl⟩
  have hA : Below w.heap.size w wA := by rw [← hwA]; exact (Below.refl _ _).alloc (Nat.le_refl _) _
  have HA := Lib.hid hA
  have HZ6 := Lib.hid (show w.heap.size < wA.heap.size by rw [← hwA]; simp)
  have HF6 : Hid ((∀ k, k < 2 → wA.frozen? ⟨w.heap.size, k, none⟩ = false) ∧ ∃ u0 u1, wA.cell? ⟨w.heap.size, 0, none⟩ = some u0 ∧ wA.cell? ⟨w.heap.size, 1, none⟩ = some u1) := Lib.hid ⟨fun k _ => by rw [← hwA]; simp, _, _, by rw [← hwA]; simp; rfl, by rw [← hwA]; simp; rfl⟩
  clear hA
  go_enter Tryz.func68, Tryz.ntmps68
  go_upto_region 3 with (go_at_call 79; (with_reducible refine (CO.out _).mono ?_); rintro e w2 ⟨⟨Y, m0, d0, rfl, hv, hd⟩, hb2⟩; have HV := Lib.hid (And.intro hv hd); have HB2 := Lib.hid hb2; clear hv hd hb2)
  clear hwA
  obtain ⟨z7, hz7⟩ : ∃ z, w2.heap.size = z := ⟨_, rfl⟩
  obtain ⟨wD, hwD⟩ : ∃ W, (w2.alloc (.cells #[.int .i64 c, .int .i64 Y, .int .i64 m0, .int .i64 d0] 89)).alloc (.cells #[.int .i64 a, .slice none 0 0] 114) = W := ⟨_, rfl⟩
  have hD : Below w2.heap.size w2 wD := by rw [← hwD]; exact ((Below.refl _ _).alloc (Nat.le_refl _) _).alloc (by simp) _
  have HD := Lib.hid hD
  have HZD := Lib.hid (show wD.heap.size = z7 + 2 by rw [← hwD, ← hz7]; simp)
  have k0 : wD.cell? ⟨z7, 0, none⟩ = some (.int .i64 c) := by rw [← hwD, ← hz7]; simp
  have k1 : wD.cell? ⟨z7, 1, none⟩ = some (.int .i64 Y) := by rw [← hwD, ← hz7]; simp
  have k2 : wD.cell? ⟨z7, 2, none⟩ = some (.int .i64 m0) := by rw [← hwD, ← hz7]; simp
  have k3 : wD.cell? ⟨z7, 3, none⟩ = some (.int .i64 d0) := by rw [← hwD, ← hz7]; simp
  have k4 : wD.cell? ⟨z7 + 1, 0, none⟩ = some (.int .i64 a) := by rw [← hwD, ← hz7]; simp
  have k5 : wD.cell? ⟨z7 + 1, 1, none⟩ = some (.slice none 0 0) := by rw [← hwD, ← hz7]; simp
  have CL : Hid (∀ w0, Calls Tryz.prog 69 #[.int .i64 c, .int .i64 Y] w0 (LensPost c Y w0)) := Lib.hid fun w0 => Lengths_any c Y w0 c1 c2 (by have := HV.out.1.1; omega) (by have := HV.out.1.2.1; omega)
  have kz : (∀ k, k < 4 → wD.frozen? ⟨z7, k, none⟩ = false) ∧ (∀ k, k < 2 → wD.frozen? ⟨z7 + 1, k, none⟩ = false) := ⟨fun k _ => by rw [← hwD, ← hz7]; simp, fun k _ => by rw [← hwD, ← hz7]; simp⟩
  have KZ := Lib.hid kz
  rw [hwD, hz7]
  clear hwD hD kz
  go_wp2_with (go_at_call 69; (with_reducible refine (CL.out _).mono ?_); rintro e w3 ⟨B, n, cap, rfl, hn, hB1, hB2, hlen, hb3⟩; have HL := Lib.hid (And.intro hn (And.intro hB1 (And.intro hB2 hlen))); have HB3 := Lib.hid hb3; clear hn hB1 hB2 hlen hb3)
  have hz67 : w.heap.size < z7 := by rw [← hz7]; exact Nat.lt_of_lt_of_le HZ6.out HB2.out.size
  have HBD : Hid (Below wA.heap.size wA wD) := Lib.hid (thenB HB2.out HD.out)
  have HN : Hid (NdH c a w.heap.size z7 (z7 + 1) w3 B n Y Y m0 d0 (.slice none 0 0) []) := Lib.hid
    { mon := HL.out.1, z76 := hz67, z97 := Nat.lt_succ_self _, low := by have := HL.out.2.1; rw [HZD.out] at this; omega, high := HL.out.2.2.1, len := HL.out.2.2.2
      list := World.ownsRow_nil _ _ _ _, apart := fun q hq => by simp [Value.ownBlock] at hq, daily := fun j hj => by simp at hj
      c0 := (HB3.out.cell (p := ⟨z7, 0, none⟩) (by rw [HZD.out]; exact Nat.lt_add_of_pos_right (by decide))).trans k0
      c1 := (HB3.out.cell (p := ⟨z7, 1, none⟩) (by rw [HZD.out]; exact Nat.lt_add_of_pos_right (by decide))).trans k1
      c2 := (HB3.out.cell (p := ⟨z7, 2, none⟩) (by rw [HZD.out]; exact Nat.lt_add_of_pos_right (by decide))).trans k2
      c3 := (HB3.out.cell (p := ⟨z7, 3, none⟩) (by rw [HZD.out]; exact Nat.lt_add_of_pos_right (by decide))).trans k3
      fz := fun k hk => (frozen_below HB3.out (p := ⟨z7, k, none⟩) (by rw [HZD.out]; exact Nat.lt_add_of_pos_right (by decide))).trans (KZ.out.1 k hk)
      d0 := (HB3.out.cell (p := ⟨z7 + 1, 0, none⟩) (by rw [HZD.out]; exact Nat.lt_succ_self _)).trans k4
      d1 := (HB3.out.cell (p := ⟨z7 + 1, 1, none⟩) (by rw [HZD.out]; exact Nat.lt_succ_self _)).trans k5
      fy := fun k hk => (frozen_below HB3.out (p := ⟨z7 + 1, k, none⟩) (by rw [HZD.out]; exact Nat.lt_succ_self _)).trans (KZ.out.2 k hk)
      f6 := fun k hk => ((frozen_below HB3.out (p := ⟨w.heap.size, k, none⟩) (by rw [HZD.out]; show w.heap.size < _; omega)).trans (frozen_below HBD.out (p := ⟨w.heap.size, k, none⟩) HZ6.out)).trans (HF6.out.1 k hk)
      e6 := by
        obtain ⟨u0, u1, h0, h1⟩ := HF6.out.2
        exact ⟨u0, u1, ((HB3.out.cell (p := ⟨w.heap.size, 0, none⟩) (by rw [HZD.out]; show w.heap.size < _; omega)).trans (HBD.out.cell (p := ⟨w.heap.size, 0, none⟩) HZ6.out)).trans h0, ((HB3.out.cell (p := ⟨w.heap.size, 1, none⟩) (by rw [HZD.out]; show w.heap.size < _; omega)).trans (HBD.out.cell (p := ⟨w.heap.size, 1, none⟩) HZ6.out)).trans h1⟩ }
  have HW3 : Hid (Below w.heap.size w w3) := Lib.hid (thenB (thenB HA.out HBD.out) HB3.out)
  clear k0 k1 k2 k3 k4 k5
  go_loopw [10, 11] (fun v x wr => ∃ (B n cap i : Nat) (y m d : Int) (vl : Value) (L : List (Int × Int × Int)), v = .slice (some ⟨B, 0, none⟩) n cap ∧ x = .int .i64 (i : Int) ∧ i ≤ N ∧ L.length = i ∧ Hid (NdH c a w.heap.size z7 (z7 + 1) wr B n y y m d vl L) ∧ Hid (Dm.Valid c y m d ∧ Dm.dayOf c y m d = a + L.length) ∧ Hid (Below w.heap.size w wr)) (fun _ x _ => N - (intOf x).toNat)
  case atStart => exact ⟨B, n, cap, 0, Y, m0, d0, _, [], rfl, rfl, by omega, rfl, HN, Lib.hid ⟨HV.out.1, by rw [HV.out.2]; simp⟩, HW3⟩
  case round =>
    obtain ⟨B, n, cap, i, y, m, d, vl, L, rfl, rfl, hi, hL, HN, HVD, HB⟩ := hrel
    by_cases hin : i < N
    · have c0 := HN.out.c0
      have c1' := HN.out.c1
      have c2' := HN.out.c2
      have c3 := HN.out.c3
      have e1 := HN.out.d1
      have z1 := HN.out.fy 1 (by decide)
      have k1 : (i : Int) < (N : Int) := by omega
      have HLL := Lib.hid hL
      have HOB : Hid (∀ q, vl.ownBlock = some q → z7 + 1 < q) := Lib.hid (fun q hq => (HN.out.list.lt q hq).1)
      have HBZ := Lib.hid (show z7 + 2 ≤ wr.heap.size by have := HN.out.low; have := HN.out.high; omega)
      clear hL
      go_upto_region 8 with (at_builtin; refine wpList_append_lies _ rfl (.tmp 30) (.tmp 32) 112 rfl (z7 + 1 + 1) 89 i0 (.agg #[.int .i64 0, .int .i64 0, .int .i64 0, .int .i64 0]) 4 32 Tryz.underlying112 hi0 hz0 hz1 hz2 rfl (by decide) _ i (flatD c L) rfl ((show World.ownsRow _ _ _ _ _ i _ by have h := HN.out.list; unfold DateL at h; rw [HLL.out] at h; exact h).alloc _) _ 1 1 (dateC c (y, m, d)) rfl rfl (cells_atI (by simp) _ _) (by simp [dateC, Value.oneCell']) (by decide) (by unfold maxLen; omega) (by omega) (by have h5 := HBZ.out; simp; omega) (wr.heap.size + 1) (by simp) ?_; intro g5 c5 w5 hown hgrow hat hlt5; have s1 : w5.heap[z7 + 1]? = wr.heap[z7 + 1]? := (hgrow.block (z7 + 1) (by have := HBZ.out; simp; omega) (fun e => Nat.lt_irrefl _ (HOB.out _ e.symm))).trans (heap_alloc_old _ _ (show z7 + 1 < wr.heap.size by have := HBZ.out; omega)); have s2 : w5.cell? ⟨z7 + 1, 1, none⟩ = some vl := (World.cell?_of_block s1).trans e1; have s3 : w5.frozen? ⟨z7 + 1, 1, none⟩ = false := by have h : w5.frozen? ⟨z7 + 1, 1, none⟩ = wr.frozen? ⟨z7 + 1, 1, none⟩ := (by simp [World.frozen?, s1]); rw [h]; exact z1)
      have HN6 := Lib.hid (HN.out.append (p := (y, m, d)) (by rw [HLL.out]; exact hown) hgrow hat (by exact HVD.out))
      rw [HLL.out] at HN6
      have HB5 := Lib.hid ((HB.out.alloc HB.out.size _).grown hgrow (by have := HB.out.size; simp; omega) (fun q hq => by have := HOB.out q hq; omega))
      obtain ⟨w6, hw6⟩ : ∃ W, w5.setCell ⟨z7 + 1, 1, none⟩ (.slice (some ⟨g5, 0, none⟩) (i + 1) c5) = W := ⟨_, rfl⟩
      have HB6 : Hid (Below w.heap.size w w6) := Lib.hid (by rw [← hw6]; exact HB5.out.setCell (by show w.heap.size ≤ z7 + 1; omega) _)
      rw [hw6] at HN6 ⊢
      clear hown hgrow hat hlt5 s1 s2 s3 hw6 c0 c1' c2' c3 e1 z1
      have hdb : 1 ≤ d ∧ d ≤ Dm.length c y m := ⟨HVD.out.1.2.2.2.2.1, HVD.out.1.2.2.2.2.2⟩
      have f3 := HN6.out.c3
      have q3 := HN6.out.fz 3 (by decide)
      have hlb := Dm.length_bd c y m
      have a1 : wrap64 (d + 1) = d + 1 := wrap_in (InI.mk (by omega) (by omega))
      go_upto_region 9 with fail
      have HN7 := Lib.hid (HN6.out.set3 (d + 1))
      have HB7 : Hid (Below w.heap.size w (w6.setCell ⟨z7, 3, none⟩ (.int .i64 (d + 1)))) := Lib.hid (HB6.out.setCell (by show w.heap.size ≤ z7; omega) _)
      obtain ⟨w7, hw7⟩ : ∃ W, w6.setCell ⟨z7, 3, none⟩ (.int .i64 (d + 1)) = W := ⟨_, rfl⟩
      rw [hw7] at HN7 HB7 ⊢
      clear hw7 f3 q3 a1
      have hmb : 1 ≤ m ∧ m ≤ Dm.months c y := ⟨HVD.out.1.2.2.1, HVD.out.1.2.2.2.1⟩
      have hm13 := Dm.months_lo c y
      have hYb : -20000 ≤ y ∧ y ≤ 20000 := ⟨HVD.out.1.1, HVD.out.1.2.1⟩
      have hNm := Lib.hid HN7.out.mon
      have lcell := HN7.out.len (m - 1).toNat (by have := HN7.out.mon; omega)
      rw [show (((m - 1).toNat : Nat) : Int) + 1 = m by omega, show (m - 1).toNat = m.toNat - 1 by omega] at lcell
      have HMN := Lib.hid (show ((m - 1).toNat : Int) < (n : Int) by have := HN7.out.mon; omega)
      obtain ⟨E, hE⟩ : ∃ E, Dm.length c y m = E := ⟨_, rfl⟩
      have HE := Lib.hid hE
      rw [hE] at lcell hlb hdb
      have p2 := HN7.out.c2
      have p3 := HN7.out.c3
      have b1 : IntKind.i64.wrap (m - 1) = m - 1 := IntWalk.i64_in _ (by omega)
      have b6 : (m - 1).toNat < n := by have := HN7.out.mon; omega
      have b2 : 0 ≤ m - 1 := by omega
      have b3 : m - 1 < (n : Int) := by have := HN7.out.mon; omega
      have b4 : 1 ≤ m := by omega
      have b5 : m ≤ (n : Int) := by have := HN7.out.mon; omega
      have hNext : Hid (∀ W2 B2 n2 y2 m2 d2, NdH c a w.heap.size z7 (z7 + 1) W2 B2 n2 y2 y2 m2 d2 (.slice (some ⟨g5, 0, none⟩) (i + 1) c5) (L ++ [(y, m, d)]) → (Dm.Valid c y2 m2 d2 ∧ Dm.dayOf c y2 m2 d2 = a + L.length + 1) → Below w.heap.size w W2 → Hid (NdH c a w.heap.size z7 (z7 + 1) W2 B2 n2 y2 y2 m2 d2 (.slice (some ⟨g5, 0, none⟩) (i + 1) c5) (L ++ [(y, m, d)])) ∧ Hid (Dm.Valid c y2 m2 d2 ∧ Dm.dayOf c y2 m2 d2 = a + (L ++ [(y, m, d)]).length) ∧ Hid (Below w.heap.size w W2)) := Lib.hid fun W2 B2 n2 y2 m2 d2 g1 g2 g3 => ⟨Lib.hid g1, Lib.hid ⟨g2.1, by rw [g2.2, List.length_append]; simp; omega⟩, Lib.hid g3⟩
      clear hE
      by_cases hd1 : d < E
      · have n1 : ¬ E < d + 1 := by omega
        have n2 : ¬ (n : Int) < m := by omega
        have HVN := Lib.hid (next_in HVD.out.1 HVD.out.2 (by rw [HE.out]; exact hd1))
        have HNN := Lib.hid (fun nq => hNext.out _ _ _ _ _ _ (HN7.out.call (belowN (Below.refl _ _) nq)) ⟨HVN.out.1, HVN.out.2⟩ (belowN HB7.out nq))
        go_quiet (fail)
        go_wp2_with fail
        go_roundw
        case rel => exact ⟨B, n, cap, i + 1, y, m, d + 1, _, L ++ [(y, m, d)], rfl, by go_num, by omega, by rw [List.length_append, HLL.out]; rfl, HNN.out _⟩
        case measure => simp [intOf]; omega
      · have hdE : d = E := by omega
        by_cases hm1 : m < (n : Int)
        · have n1 : E < d + 1 := by omega
          have n2 : ¬ (n : Int) < m + 1 := by omega
          have a3 : wrap64 (m + 1) = m + 1 := wrap_in (InI.mk (by omega) (by omega))
          have HVN := Lib.hid (next_month (by omega) (by omega) HVD.out.1 HVD.out.2 (by rw [HE.out]; exact hdE) (by rw [← hNm.out]; exact hm1))
          have z3 := HN7.out.fz 3 (by decide)
          have z2 := HN7.out.fz 2 (by decide)
          have HNN := Lib.hid (fun nq => hNext.out _ _ _ _ _ _ (((HN7.out.call (belowN (Below.refl _ _) nq)).set3 1).set2 (m + 1)) ⟨HVN.out.1, HVN.out.2⟩ (((belowN HB7.out nq).setCell (by show w.heap.size ≤ z7; omega) _).setCell (by show w.heap.size ≤ z7; omega) _))
          clear hdE
          go_quiet (fail)
          go_wp2_with fail
          go_roundw
          case rel => exact ⟨B, n, cap, i + 1, y, m + 1, 1, _, L ++ [(y, m, d)], rfl, by go_num, by omega, by rw [List.length_append, HLL.out]; rfl, HNN.out _⟩
          case measure => simp [intOf]; omega
        · have hmE : m = (n : Int) := by omega
          have n1 : E < d + 1 := by omega
          have n2 : (n : Int) < m + 1 := by omega
          have a3 : wrap64 (m + 1) = m + 1 := wrap_in (InI.mk (by omega) (by omega))
          have a4 : wrap64 (y + 1) = y + 1 := wrap_in (InI.mk (by omega) (by omega))
          have hy20 := year_in (by omega) (by omega) HVD.out.1 HVD.out.2 (by have := HLL.out; omega) (by have := HLL.out; omega)
          have HVN := Lib.hid (next_year (by omega) (by omega) HVD.out.1 HVD.out.2 (by rw [HE.out]; exact hdE) (by rw [← hNm.out]; exact hmE) hy20)
          have z3 := HN7.out.fz 3 (by decide)
          have z2 := HN7.out.fz 2 (by decide)
          have z1 := HN7.out.fz 1 (by decide)
          have p1 := HN7.out.c1
          have CL2 : Hid (∀ w0, Calls Tryz.prog 69 #[.int .i64 c, .int .i64 (y + 1)] w0 (LensPost c (y + 1) w0)) := Lib.hid fun w0 => Lengths_any c (y + 1) w0 c1 c2 (by omega) (by omega)
          have HNN := Lib.hid (fun nq (w8 : World) (B8 n8 cap8 : Nat) (hn8 : (n8 : Int) = Dm.months c (y + 1)) (hb1 : _) (hb2 : B8 < w8.heap.size) (hlen8 : ∀ i : Nat, i < n8 → w8.cell? ⟨B8, i, none⟩ = some (.int .i64 (Dm.length c (y + 1) (i + 1)))) (hb8 : Below _ (((((w7.drewN nq).setCell ⟨z7, 3, none⟩ (.int .i64 1)).setCell ⟨z7, 2, none⟩ (.int .i64 (m + 1))).setCell ⟨z7, 2, none⟩ (.int .i64 1)).setCell ⟨z7, 1, none⟩ (.int .i64 (y + 1))) w8) => hNext.out _ _ _ _ _ _ ((((((HN7.out.call (belowN (Below.refl _ _) nq)).set3 1).set2 (m + 1)).set2 1).set1 (y + 1)).lens hb8 hn8 hb1 hb2 hlen8) ⟨HVN.out.1, HVN.out.2⟩ (thenB (((((belowN HB7.out nq).setCell (by show w.heap.size ≤ z7; omega) _).setCell (by show w.heap.size ≤ z7; omega) _).setCell (by show w.heap.size ≤ z7; omega) _).setCell (by show w.heap.size ≤ z7; omega) _) hb8))
          clear hdE hmE
          go_quiet (fail)
          go_wp2_with (go_at_call 69; (with_reducible refine (CL2.out _).mono ?_); rintro e w8 ⟨B8, n8, cap8, rfl, hn8, hB1, hB2, hlen8, hb8⟩; have H8 := Lib.hid (HNN.out _ _ _ _ cap8 hn8 hB1 hB2 hlen8 hb8); clear hn8 hB1 hB2 hlen8 hb8)
          go_roundw
          case rel => exact ⟨B8, n8, cap8, i + 1, y + 1, 1, 1, _, L ++ [(y, m, d)], rfl, by go_num, by omega, by rw [List.length_append, HLL.out]; rfl, H8.out⟩
          case measure => simp [intOf]; omega
    · have e : i = N := by omega
      subst e
      have d0 := HN.out.d0
      have d1 := HN.out.d1
      have t0 := HN.out.f6 0 (by decide)
      have t1 := HN.out.f6 1 (by decide)
      obtain ⟨u0, u1, g0, g1⟩ := HN.out.e6
      obtain ⟨ol, cl, hvl⟩ := DateL.form HN.out.list
      subst hvl
      have HR : Hid (DateL wr w.heap.size c (.slice ol L.length cl) L ∧ L.length = i ∧ Daily c a L) := Lib.hid ⟨by
        have h := HN.out.list
        have hz := HN.out.z76
        refine ⟨h.1, ?_⟩
        rcases h.2 with h2 | ⟨g, cap, cur, h3, h4, h5⟩
        · exact .inl h2
        · exact .inr ⟨g, cap, cur, h3, by omega, h5⟩, hL, HN.out.daily⟩
      have t2 : (wr.setCell ⟨w.heap.size, 0, none⟩ (.int .i64 a)).frozen? ⟨w.heap.size, 1, none⟩ = false := by rw [World.frozen?_setCell]; exact t1
      have t3 : (wr.setCell ⟨w.heap.size, 0, none⟩ (.int .i64 a)).cell? ⟨w.heap.size, 1, none⟩ = some u1 := (World.cell?_setCell_other _ _ _ _ (by simp)).trans g1
      have t4 : ((wr.setCell ⟨w.heap.size, 0, none⟩ (.int .i64 a)).setCell ⟨w.heap.size, 1, none⟩ (.slice ol L.length cl)).cell? ⟨w.heap.size, 0, none⟩ = some (.int .i64 a) := (World.cell?_setCell_other _ _ _ _ (by simp)).trans (World.cell?_setCell_same _ _ _ g0)
      have t5 : ((wr.setCell ⟨w.heap.size, 0, none⟩ (.int .i64 a)).setCell ⟨w.heap.size, 1, none⟩ (.slice ol L.length cl)).cell? ⟨w.heap.size, 1, none⟩ = some (.slice ol L.length cl) := World.cell?_setCell_same _ _ _ t3
      have HE6 : Hid (DateL ((wr.setCell ⟨w.heap.size, 0, none⟩ (.int .i64 a)).setCell ⟨w.heap.size, 1, none⟩ (.slice ol L.length cl)) w.heap.size c (.slice ol L.length cl) L ∧ Below w.heap.size w ((wr.setCell ⟨w.heap.size, 0, none⟩ (.int .i64 a)).setCell ⟨w.heap.size, 1, none⟩ (.slice ol L.length cl))) := Lib.hid ⟨by
        have hq : ∀ e : (Value.slice ol L.length cl).ownBlock = some w.heap.size, False := fun e => by have := (HN.out.list.lt _ e).1; have := HN.out.z76; omega
        exact ownsRow_setCell_other (ownsRow_setCell_other HR.out.1 (fun e => hq e) _) (fun e => hq e) _, (HB.out.setCell (by show w.heap.size ≤ w.heap.size; omega) _).setCell (by show w.heap.size ≤ w.heap.size; omega) _⟩
      clear hL
      go_wp2_with fail
      exact bodyPost_ret (v := .agg #[.int .i64 a, .slice ol L.length cl]) (by simp [results, Tryz.results68, go_sem, t4, t5]) rfl ⟨_, L, rfl, HE6.out.1, HR.out.2.1, HR.out.2.2, HE6.out.2⟩
end Go.Proofs.YtbgcccfgcdkmdaaGreatDoor
