/- text.param. -/
import Derived.Test.YtidgahnamdhflaaDoorPsxC
import Derived.Test.YtidgahnamdhflaaDoorFldF
import Derived.Deep.LoopGhost
namespace Go.Proofs.YtidgahnamdhflaaDoor
open Go.RowKit Go.Shelf Fld Prt Psx
theorem quiet_add_same2 {P : Program} {f : FuncId} {args : Array Value} {w : World} {n : Nat} {v : Value} (h : Calls P f args (w.drewN n) fun e w' => e = .returned v ∧ w' = w.drewN n) : Calls P f args (w.drewN n) fun e w'' => e = .returned v ∧ ∃ m, w'' = w.drewN m :=
  h.mono fun _ _ ⟨he, hm⟩ => ⟨he, n, hm⟩
theorem row_call {w w' : World} {b : Nat} {e : TypeId} {z : Nat} {v : Value} {n : Nat} {xs : List Value} (h : World.ownsRow w b e z v n xs) (hb : Below w.heap.size w w') : World.ownsRow w' b e z v n xs :=
  World.ownsRow.kept (row := none) h ⟨hb.os, hb.tape, hb.output, hb.size, fun k hk _ => hb.block k hk⟩ (by cases hv : v.ownBlock <;> simp)
theorem row_far {w : World} {b : Nat} {e : TypeId} {z : Nat} {v : Value} {n : Nat} {xs : List Value} (h : World.ownsRow w b e z v n xs) {p : Addr} (hp : ∀ k, v.ownBlock = some k → k ≠ p.block) (u : Value) : World.ownsRow (w.setCell p u) b e z v n xs :=
  World.ownsRow.kept (row := some p.block) h ⟨rfl, rfl, rfl, by simp [World.setCell], fun k hk hne => Below.heap_setCell w p u k (fun e => hne (by rw [e]))⟩ (by
    cases hv : v.ownBlock with
    | none => exact .inl rfl
    | some k => exact .inr fun e => hp k hv (Option.some.inj e))
/-- IndexByte by the first place. -/
def fstI (o : Option Nat) : Int := match o with | none => -1 | some i => (i : Int)
theorem ib_fst (q : ByteArray) (c : UInt8) (C : Int) (hC : C = (c.toNat : Int)) (w : World) : Calls Tryd.prog 46 #[.string q, .int .u8 C] w fun e w' => e = .returned (.int .i64 (fstI (fstOf q.data.toList [c]))) ∧ w = w' := by
  subst hC
  refine (Any.strings_IndexByte layIB q (c.toNat : Int) w).mono ?_
  rintro e w' ⟨rfl, rfl⟩
  refine ⟨?_, rfl⟩
  have h2 : Lib.indexByte q.data.toList c = fstI (fstOf q.data.toList [c]) := by
    rw [indexByte_fst]; unfold fstI; cases fstOf q.data.toList [c] <;> rfl
  simp [h2]
theorem ia_fst (q cs : ByteArray) (w : World) (h2 : 2 ≤ cs.size) (h8 : cs.size ≤ 8) (hs : q.size < 4294967281) (hc : ∀ b, b ∈ cs.data.toList → b.toNat < 128) : Calls Tryd.prog 77 #[.string q, .string cs] w fun e w' => e = .returned (.int .i64 (fstI (fstOf q.data.toList cs.data.toList))) ∧ Below w.heap.size w w' := by
  refine (ia_any q cs w h2 h8 hs hc).mono ?_
  rintro e w' ⟨rfl, hb⟩
  rw [indexAny_fst]
  exact ⟨rfl, hb⟩
theorem hp_any (q : ByteArray) (w : World) : Calls Tryd.prog 95 #[.string q, .string ⟨#[34]⟩] w fun e w' => e = .returned (.bool (decide (q.data.toList.head? = some 34))) ∧ w = w' := by
  refine (Any.strings_HasPrefix layHP q ⟨#[34]⟩ w).mono ?_
  rintro e w' ⟨rfl, rfl⟩
  refine ⟨?_, rfl⟩
  unfold Lib.hasPrefix
  cases h : q.data.toList with
  | nil => rfl
  | cons a l =>
    show Ending.returned (.bool (List.isPrefixOf [34] (a :: l))) = _
    by_cases ha : a = 34
    · subst ha; simp
    · have h2 : ((34 : UInt8) == a) = false := by simpa using fun e => ha e.symm
      simp [List.isPrefixOf, h2, ha]
theorem ext_list (s : ByteArray) (i j : Nat) : (s.extract i j).data.toList = (s.data.toList.drop i).take (j - i) := Lib.extract_data s i j
theorem ext_tail (s : ByteArray) (i : Nat) : (s.extract i s.size).data.toList = s.data.toList.drop i := ext_from s i
/-- param under way: its result's block, its x, the values so far. -/
def PmS (w : World) (X0 : Nat) (G : ByteArray) (v : Value) (acc : List (List UInt8)) (x : World) : Prop :=
  Below w.heap.size w x ∧ (w.heap.size < X0 ∧ X0 < x.heap.size) ∧
  (x.cell? ⟨w.heap.size, 0, none⟩ = some (.string ⟨#[]⟩) ∧ x.frozen? ⟨w.heap.size, 0, none⟩ = false ∧ x.cell? ⟨w.heap.size, 1, none⟩ = some (.slice none 0 0) ∧ x.frozen? ⟨w.heap.size, 1, none⟩ = false) ∧
  (x.cell? ⟨X0, 0, none⟩ = some (.string G) ∧ x.cell? ⟨X0, 1, none⟩ = some v ∧ x.frozen? ⟨X0, 1, none⟩ = false) ∧ StrL x (X0 + 1) v acc
theorem PmS.call {w : World} {X0 : Nat} {G : ByteArray} {v : Value} {acc : List (List UInt8)} {x x' : World} (h : PmS w X0 G v acc x) (hb : Below x.heap.size x x') : PmS w X0 G v acc x' := by
  obtain ⟨h1, ⟨h2, h3⟩, ⟨a1, a2, a3, a4⟩, ⟨b1, b2, b3⟩, h4⟩ := h
  have hH : w.heap.size < x.heap.size := by omega
  exact ⟨thenB h1 hb, ⟨h2, Nat.lt_of_lt_of_le h3 hb.size⟩, ⟨(hb.cell (p := ⟨w.heap.size, 0, none⟩) hH).trans a1, (hb.frozen (p := ⟨w.heap.size, 0, none⟩) hH).trans a2, (hb.cell (p := ⟨w.heap.size, 1, none⟩) hH).trans a3, (hb.frozen (p := ⟨w.heap.size, 1, none⟩) hH).trans a4⟩, ⟨(hb.cell (p := ⟨X0, 0, none⟩) h3).trans b1, (hb.cell (p := ⟨X0, 1, none⟩) h3).trans b2, (hb.frozen (p := ⟨X0, 1, none⟩) h3).trans b3⟩, h4.call hb⟩
theorem PmS.facts {w : World} {X0 : Nat} {G : ByteArray} {v : Value} {acc : List (List UInt8)} {x : World} (h : PmS w X0 G v acc x) :
    (w.heap.size < x.heap.size ∧ X0 < x.heap.size) ∧ (x.cell? ⟨w.heap.size, 0, none⟩ = some (.string ⟨#[]⟩) ∧ x.frozen? ⟨w.heap.size, 0, none⟩ = false ∧ x.cell? ⟨w.heap.size, 1, none⟩ = some (.slice none 0 0) ∧ x.frozen? ⟨w.heap.size, 1, none⟩ = false) ∧
    (x.cell? ⟨X0, 0, none⟩ = some (.string G) ∧ x.cell? ⟨X0, 1, none⟩ = some v ∧ x.frozen? ⟨X0, 1, none⟩ = false) := ⟨⟨by have := h.2.1; omega, h.2.1.2⟩, h.2.2.1, h.2.2.2.1⟩
theorem PmS.form {w : World} {X0 : Nat} {G : ByteArray} {v : Value} {acc : List (List UInt8)} {x : World} (h : PmS w X0 G v acc x) : ∃ oa cap, v = .slice oa acc.length cap := StrL.form h.2.2.2.2
theorem strL_q {w : World} {b : Nat} {v : Value} {l : List (List UInt8)} (h : StrL w b v l) {S : Nat → Prop} (hS : ∀ g, b ≤ g → g < w.heap.size → S g) : QStr S w v (l.map bs) := by
  obtain ⟨oa, cap, rfl⟩ := h.form
  refine ⟨oa, cap, by rw [List.length_map], fun h0 => ?_, fun a ha h0 => ?_⟩
  · rw [List.length_map] at h0
    obtain ⟨g, e, -⟩ := h.at (k := 0) h0
    exact ⟨_, e⟩
  · rw [List.length_map] at h0
    subst ha
    obtain ⟨g, e, g1, g2, -⟩ := h.at (k := 0) h0
    injection e with e
    subst e
    refine ⟨⟨hS g g1 g2, rfl⟩, fun i hi => ?_⟩
    rw [List.length_map] at hi
    obtain ⟨g', e', -, -, hc, -⟩ := h.at (k := i) hi
    injection e' with e'
    injection e' with e'
    subst e'
    rw [Addr.add_lit, Nat.zero_add, hc]
    simp [List.getD, hi, bs]
theorem PmS.fin {w : World} {X0 : Nat} {G : ByteArray} {v : Value} {acc : List (List UInt8)} {x : World} (h : PmS w X0 G v acc x) :
    ((x.setCell ⟨w.heap.size, 0, none⟩ (.string G)).setCell ⟨w.heap.size, 1, none⟩ v).cell? ⟨w.heap.size, 0, none⟩ = some (.string G) ∧ ((x.setCell ⟨w.heap.size, 0, none⟩ (.string G)).setCell ⟨w.heap.size, 1, none⟩ v).cell? ⟨w.heap.size, 1, none⟩ = some v ∧
    Below w.heap.size w ((x.setCell ⟨w.heap.size, 0, none⟩ (.string G)).setCell ⟨w.heap.size, 1, none⟩ v) ∧
    QStr (fun b => w.heap.size ≤ b ∧ b < ((x.setCell ⟨w.heap.size, 0, none⟩ (.string G)).setCell ⟨w.heap.size, 1, none⟩ v).heap.size) ((x.setCell ⟨w.heap.size, 0, none⟩ (.string G)).setCell ⟨w.heap.size, 1, none⟩ v) v (acc.map bs) := by
  obtain ⟨h1, ⟨h2, h3⟩, ⟨a1, a2, a3, a4⟩, ⟨b1, b2, b3⟩, h4⟩ := h
  have c1 : (x.setCell ⟨w.heap.size, 0, none⟩ (.string G)).cell? ⟨w.heap.size, 0, none⟩ = some (.string G) := World.cell?_setCell_same _ _ _ a1
  have c2 : (x.setCell ⟨w.heap.size, 0, none⟩ (.string G)).cell? ⟨w.heap.size, 1, none⟩ = some (.slice none 0 0) := by rw [World.cell?_setCell_other _ _ _ _ (by simp)]; exact a3
  refine ⟨by rw [World.cell?_setCell_other _ _ _ _ (by simp)]; exact c1, World.cell?_setCell_same _ _ _ c2, (h1.setCell (p := ⟨w.heap.size, 0, none⟩) (Nat.le_refl _) _).setCell (p := ⟨w.heap.size, 1, none⟩) (Nat.le_refl _) _, ?_⟩
  have hf : ∀ k, v.ownBlock = some k → k ≠ w.heap.size := fun k hk => by have := (World.ownsRow.lt h4 k hk).1; omega
  have h5 : StrL ((x.setCell ⟨w.heap.size, 0, none⟩ (.string G)).setCell ⟨w.heap.size, 1, none⟩ v) (X0 + 1) v acc := row_far (row_far h4 (p := ⟨w.heap.size, 0, none⟩) hf _) (p := ⟨w.heap.size, 1, none⟩) hf _
  exact strL_q h5 fun g g1 g2 => ⟨by omega, g2⟩
/-- One value more. -/
theorem PmS.more {w : World} {X0 : Nat} {G V : ByteArray} {v v3 : Value} {acc : List (List UInt8)} {x x3 : World} {o : Obj} (h : PmS w X0 G v acc x) (hown : World.ownsRow x3 (X0 + 1) 9 1 v3 (acc.length + 1) (strV acc ++ [.string V])) (hg : (x.alloc o).grownBy x3 v.ownBlock) : PmS w X0 G v3 (acc ++ [V.data.toList]) (x3.setCell ⟨X0, 1, none⟩ v3) := by
  obtain ⟨h1, ⟨h2, h3⟩, ⟨a1, a2, a3, a4⟩, ⟨b1, b2, b3⟩, h4⟩ := h
  have hlt := fun k hk => World.ownsRow.lt h4 k hk
  have kb : ∀ k, k < X0 + 1 → x3.heap[k]? = x.heap[k]? := fun k hk => by
    have h5 := hg.block k (by simp; omega) (fun e => by have := (hlt k e.symm).1; omega)
    rw [h5]
    show (x.heap.push o)[k]? = _
    rw [Array.getElem?_push_lt (by omega), Array.getElem?_eq_getElem]
  have hsz : x.heap.size < x3.heap.size := Nat.lt_of_lt_of_le (by simp) hg.size
  have kc : ∀ (p : Addr), p.block < X0 + 1 → x3.cell? p = x.cell? p := fun p hp => World.cell?_of_block (kb _ hp)
  have kf : ∀ (p : Addr), p.block < X0 + 1 → x3.frozen? p = x.frozen? p := fun p hp => by unfold World.frozen?; rw [kb _ hp]
  have h6 : Below w.heap.size w x3 := (h1.alloc h1.size o).grown hg (by have := h1.size; simp; omega) (fun k hk => by have := (hlt k hk).1; omega)
  refine ⟨h6.setCell (p := ⟨X0, 1, none⟩) (Nat.le_of_lt h2) _, ⟨h2, by simp [World.setCell]; omega⟩, ⟨?_, ?_, ?_, ?_⟩, ⟨?_, ?_, ?_⟩, ?_⟩
  · rw [World.cell?_setCell_other _ _ _ _ (by intro e; injection e with e; omega)]; exact (kc ⟨w.heap.size, 0, none⟩ (by show w.heap.size < _; omega)).trans a1
  · rw [show (x3.setCell ⟨X0, 1, none⟩ v3).frozen? ⟨w.heap.size, 0, none⟩ = x3.frozen? ⟨w.heap.size, 0, none⟩ by simp]; exact (kf ⟨w.heap.size, 0, none⟩ (by show w.heap.size < _; omega)).trans a2
  · rw [World.cell?_setCell_other _ _ _ _ (by intro e; injection e with e; omega)]; exact (kc ⟨w.heap.size, 1, none⟩ (by show w.heap.size < _; omega)).trans a3
  · rw [show (x3.setCell ⟨X0, 1, none⟩ v3).frozen? ⟨w.heap.size, 1, none⟩ = x3.frozen? ⟨w.heap.size, 1, none⟩ by simp]; exact (kf ⟨w.heap.size, 1, none⟩ (by show w.heap.size < _; omega)).trans a4
  · rw [World.cell?_setCell_other _ _ _ _ (by simp)]; exact (kc ⟨X0, 0, none⟩ (Nat.lt_succ_self _)).trans b1
  · exact World.cell?_setCell_same _ _ _ ((kc ⟨X0, 1, none⟩ (Nat.lt_succ_self _)).trans b2)
  · rw [show (x3.setCell ⟨X0, 1, none⟩ v3).frozen? ⟨X0, 1, none⟩ = x3.frozen? ⟨X0, 1, none⟩ by simp]; exact (kf ⟨X0, 1, none⟩ (Nat.lt_succ_self _)).trans b3
  · unfold StrL
    rw [List.length_append, List.length_singleton, strV_snoc]
    exact row_far hown (p := ⟨X0, 1, none⟩) (fun k hk => by have := (World.ownsRow.lt hown k hk).1; show k ≠ X0; omega) _
/-- What param answers. -/
def ParPost (l : List UInt8) (w : World) (e : Ending) (w' : World) : Prop :=
  ((prmP l).1 = 0 → ∃ u, e = .returned (.tuple #[.agg #[.string (prmP l).2.1.name, u], .string (bs (prmP l).2.2), .nilIface]) ∧ QStr (fun b => w.heap.size ≤ b ∧ b < w'.heap.size) w' u (prmP l).2.1.vals) ∧
  ((prmP l).1 ≠ 0 → ∃ nm oa n c, e = .returned (.tuple #[.agg #[.string nm, .slice oa n c], .string ⟨#[]⟩, errV (prmP l).1])) ∧ Below w.heap.size w w'
theorem ParPost.bad {l : List UInt8} {w w' : World} {x : Int} {nm : ByteArray} {oa : Option Addr} {n c : Nat} (h : (prmP l).1 = x) (hx : x ≠ 0) (hb : Below w.heap.size w w') : ParPost l w (.returned (.tuple #[.agg #[.string nm, .slice oa n c], .string ⟨#[]⟩, .iface 26 (.int .i64 x)])) w' :=
  ⟨fun h0 => absurd (h.symm.trans h0) hx, fun _ => ⟨nm, oa, n, c, by rw [h, errV_ne hx]⟩, hb⟩
theorem prmP_none {l : List UInt8} (h : fstOf l [61] = none) : (prmP l).1 = 5 := by unfold prmP; rw [h]
theorem prmP_name {l : List UInt8} {i : Nat} (h : fstOf l [61] = some i) (hn : nameB (greatL (l.take i)) = false) : (prmP l).1 = 8 := by unfold prmP; rw [h]; simp only; rw [if_pos hn]
theorem prmP_vals {l : List UInt8} {i : Nat} (h : fstOf l [61] = some i) (hn : nameB (greatL (l.take i)) = true) : ((valsP (l.length + 1) [] (l.drop i)).1 ≠ 0 → (prmP l).1 = (valsP (l.length + 1) [] (l.drop i)).1) ∧ ((valsP (l.length + 1) [] (l.drop i)).1 = 0 → prmP l = (0, ⟨bs (greatL (l.take i)), (valsP (l.length + 1) [] (l.drop i)).2.1.map bs⟩, (valsP (l.length + 1) [] (l.drop i)).2.2)) := by
  unfold prmP
  rw [h]
  simp only
  rw [if_neg (by rw [hn]; decide)]
  exact ⟨fun g => by rw [if_pos g], fun g => by rw [if_neg (fun h => h g)]⟩
end Go.Proofs.YtidgahnamdhflaaDoor
