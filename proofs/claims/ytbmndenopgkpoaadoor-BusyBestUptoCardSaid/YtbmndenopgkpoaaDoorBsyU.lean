/- Two lists that grow side by side: the program's sets, the document's. -/
import Derived.Test.YtbmndenopgkpoaaDoorBsyT
namespace Go.Proofs.YtbmndenopgkpoaaDoor
open Go.RowKit Wrk Go.Shelf
theorem IvS.grown {w w' : World} {row : Option Nat} {v : Value} {l : List Iv} (h : IvS w v l) (hg : w.grownBy w' row) (hne : 0 < l.length → ∀ a n c, v = .slice (some a) n c → row ≠ some a.block) : IvS w' v l := by
  obtain ⟨ob, cap, rfl, h3, h1, h2⟩ := h
  refine ⟨ob, cap, rfl, h3, h1, fun a ha => ?_⟩
  subst ha
  obtain ⟨k1, k2⟩ := h2 a rfl
  refine ⟨fun h0 => Nat.lt_of_lt_of_le (k1 h0) hg.size, fun k hk => ?_⟩
  have h0 : 0 < l.length := by omega
  have hb : w'.heap[a.block]? = w.heap[a.block]? := hg.block a.block (k1 h0) (fun e => hne h0 a _ _ rfl e.symm)
  obtain ⟨c1, c2⟩ := k2 k hk
  exact ⟨(World.cell?_of_block (a := a.add (k * 2)) (by rw [ivAdd_block]; exact hb)).trans c1, (World.cell?_of_block (a := a.add (k * 2 + 1)) (by rw [ivAdd_block]; exact hb)).trans c2⟩
theorem IvS.lt {w : World} {a : Addr} {n c : Nat} {l : List Iv} (h : IvS w (.slice (some a) n c) l) (h0 : 0 < l.length) : a.block < w.heap.size := by
  obtain ⟨ob, cap, e, _, _, h2⟩ := h
  cases e
  exact (h2 a rfl).1 h0
def AwayV (v1 v2 u : Value) (l : List Iv) : Prop := 0 < l.length → ∀ a n c, u = .slice (some a) n c → v1.ownBlock ≠ some a.block ∧ v2.ownBlock ≠ some a.block
def AwayL (v1 v2 u : Value) : Prop := ∀ q, u.ownBlock = some q → v1.ownBlock ≠ some q ∧ v2.ownBlock ≠ some q
def updF (f : Nat → Value) (k : Nat) (u : Value) : Nat → Value := fun j => if j = k then u else f j
theorem updF_at (f : Nat → Value) (k : Nat) (u : Value) : updF f k u k = u := if_pos rfl
theorem updF_ne {f : Nat → Value} {k : Nat} {u : Value} {j : Nat} (h : j ≠ k) : updF f k u j = f j := if_neg h
/-- Both lists, so far. -/
structure PairI (X : (Nat → Value) → Nat → List Value) (w : World) (b : Nat) (e1 e2 : TypeId) (sz : Nat) (v1 v2 : Value) (k1 k2 : Nat) (f g : Nat → Value) (PP : Nat → List Iv) : Prop where
  r1 : w.ownsRow b e1 sz v1 k1 (X f k1)
  r2 : w.ownsRow b e2 sz v2 k2 (X g k2)
  ne : ∀ q, v1.ownBlock = some q → v2.ownBlock ≠ some q
  s1 : ∀ j, j < k1 → IvS w (f j) (PP j) ∧ AwayV v1 v2 (f j) (PP j)
  s2 : ∀ j, j < k2 → IvL w 0 (g j) (PP j) ∧ AwayL v1 v2 (g j)
theorem PairI.call {X : (Nat → Value) → Nat → List Value} {w w' : World} {b : Nat} {e1 e2 : TypeId} {sz k1 k2 : Nat} {v1 v2 : Value} {f g : Nat → Value} {PP : Nat → List Iv} (h : PairI X w b e1 e2 sz v1 v2 k1 k2 f g PP) (hb : Below w.heap.size w w') : PairI X w' b e1 e2 sz v1 v2 k1 k2 f g PP :=
  ⟨ivOwn_call h.r1 hb, ivOwn_call h.r2 hb, h.ne, fun j hj => ⟨(h.s1 j hj).1.call hb, (h.s1 j hj).2⟩, fun j hj => ⟨(h.s2 j hj).1.call hb, (h.s2 j hj).2⟩⟩
theorem PairI.start (X : (Nat → Value) → Nat → List Value) (w : World) (b : Nat) (e1 e2 : TypeId) (sz : Nat) (f g : Nat → Value) (PP : Nat → List Iv) (h1 : X f 0 = []) (h2 : X g 0 = []) : PairI X w b e1 e2 sz (.slice none 0 0) (.slice none 0 0) 0 0 f g PP :=
  ⟨by rw [h1]; exact World.ownsRow_nil _ _ _ _, by rw [h2]; exact World.ownsRow_nil _ _ _ _, fun q h => by simp [Value.ownBlock] at h, fun j h => absurd h (by omega), fun j h => absurd h (by omega)⟩
theorem ne_row {v : Value} {row : Option Nat} (h : ∀ q, v.ownBlock = some q → row ≠ some q) : v.ownBlock = none ∨ v.ownBlock ≠ row := by
  cases hv : v.ownBlock with
  | none => exact .inl rfl
  | some q => exact .inr fun e => h q hv e.symm
theorem PairI.put1 {X : (Nat → Value) → Nat → List Value} {w w3 w4 : World} {b : Nat} {e1 e2 : TypeId} {sz k1 k2 : Nat} {v1 v2 : Value} {f g : Nat → Value} {PP : Nat → List Iv} (h : PairI X w b e1 e2 sz v1 v2 k1 k2 f g PP) (hb : Below w.heap.size w w3) {u : Value} {news : List Value} {g5 c5 H : Nat}
    (hu : IvS w3 u (PP k1)) (hn : NewV w.heap.size u) (hg : w3.grownBy w4 v1.ownBlock) (hown : w4.ownsRow b e1 sz (.slice (some ⟨g5, 0, none⟩) (k1 + 1) c5) (k1 + 1) (X f k1 ++ news)) (hat : v1.ownBlock = some g5 ∨ g5 = H) (hH : w3.heap.size ≤ H)
    (hX : X (updF f k1 u) (k1 + 1) = X f k1 ++ news) :
    PairI X w4 b e1 e2 sz (.slice (some ⟨g5, 0, none⟩) (k1 + 1) c5) v2 (k1 + 1) k2 (updF f k1 u) g PP := by
  have hsz := hb.size
  have l1 := fun q (hq : v1.ownBlock = some q) => (h.r1.lt q hq).2
  have l2 := fun q (hq : v2.ownBlock = some q) => (h.r2.lt q hq).2
  have hg5 : ∀ q, q < w.heap.size → v1.ownBlock ≠ some q → g5 ≠ q := fun q h1 h2 e => by
    rcases hat with h3 | h3
    · exact h2 (by rw [h3, e])
    · omega
  refine ⟨by rw [hX]; exact hown, (ivOwn_call h.r2 hb).kept hg (ne_row fun q hq e => h.ne q e hq), fun q hq hq2 => ?_, fun j hj => ?_, fun j hj => ?_⟩
  · have e : g5 = q := by simpa [Value.ownBlock] using hq
    exact hg5 q (l2 q hq2) (fun e2 => h.ne q e2 hq2) e
  · by_cases e : j = k1
    · subst e
      rw [updF_at]
      have hnl : 0 < (PP j).length → ∀ a n c, u = .slice (some a) n c → w.heap.size ≤ a.block ∧ a.block < w3.heap.size := fun h0 a n c e => by
        subst e
        exact ⟨hn a n c rfl, hu.lt h0⟩
      refine ⟨hu.grown hg fun h0 a n c e e2 => ?_, fun h0 a n c e => ⟨fun e2 => ?_, fun e2 => ?_⟩⟩
      · have := l1 _ e2; have := (hnl h0 a n c e).1; omega
      · have e3 : g5 = a.block := by simpa [Value.ownBlock] using e2
        obtain ⟨q1, q2⟩ := hnl h0 a n c e
        rcases hat with h3 | h3
        · have := l1 _ h3; omega
        · omega
      · have := l2 _ e2; have := (hnl h0 a n c e).1; omega
    · have hj' : j < k1 := by omega
      rw [updF_ne e]
      obtain ⟨i1, i2⟩ := h.s1 j hj'
      refine ⟨(i1.call hb).grown hg fun h0 a n c e => (i2 h0 a n c e).1, fun h0 a n c e => ⟨fun e2 => ?_, (i2 h0 a n c e).2⟩⟩
      have e3 : g5 = a.block := by simpa [Value.ownBlock] using e2
      exact hg5 _ (by rw [e] at i1; exact i1.lt h0) (i2 h0 a n c e).1 e3
  · obtain ⟨i1, i2⟩ := h.s2 j hj
    refine ⟨World.ownsRow.kept (ivOwn_call i1 hb) hg (ne_row fun q hq => (i2 q hq).1), fun q hq => ⟨fun e2 => ?_, (i2 q hq).2⟩⟩
    have e3 : g5 = q := by simpa [Value.ownBlock] using e2
    exact hg5 q (World.ownsRow.lt i1 q hq).2 (i2 q hq).1 e3
theorem PairI.put2 {X : (Nat → Value) → Nat → List Value} {w w3 w4 : World} {b : Nat} {e1 e2 : TypeId} {sz k1 k2 : Nat} {v1 v2 : Value} {f g : Nat → Value} {PP : Nat → List Iv} (h : PairI X w b e1 e2 sz v1 v2 k1 k2 f g PP) (hb : Below w.heap.size w w3) {u : Value} {news : List Value} {g5 c5 H : Nat}
    (hu : IvL w3 w.heap.size u (PP k2)) (hg : w3.grownBy w4 v2.ownBlock) (hown : w4.ownsRow b e2 sz (.slice (some ⟨g5, 0, none⟩) (k2 + 1) c5) (k2 + 1) (X g k2 ++ news)) (hat : v2.ownBlock = some g5 ∨ g5 = H) (hH : w3.heap.size ≤ H)
    (hX : X (updF g k2 u) (k2 + 1) = X g k2 ++ news) :
    PairI X w4 b e1 e2 sz v1 (.slice (some ⟨g5, 0, none⟩) (k2 + 1) c5) k1 (k2 + 1) f (updF g k2 u) PP := by
  have hsz := hb.size
  have l1 := fun q (hq : v1.ownBlock = some q) => (h.r1.lt q hq).2
  have l2 := fun q (hq : v2.ownBlock = some q) => (h.r2.lt q hq).2
  have hg5 : ∀ q, q < w.heap.size → v2.ownBlock ≠ some q → g5 ≠ q := fun q h1 h2 e => by
    rcases hat with h3 | h3
    · exact h2 (by rw [h3, e])
    · omega
  refine ⟨(ivOwn_call h.r1 hb).kept hg (ne_row fun q hq e => h.ne q hq e), by rw [hX]; exact hown, fun q hq hq2 => ?_, fun j hj => ?_, fun j hj => ?_⟩
  · have e : g5 = q := by simpa [Value.ownBlock] using hq2
    exact hg5 q (l1 q hq) (fun e2 => h.ne q hq e2) e
  · obtain ⟨i1, i2⟩ := h.s1 j hj
    refine ⟨(i1.call hb).grown hg fun h0 a n c e => (i2 h0 a n c e).2, fun h0 a n c e => ⟨(i2 h0 a n c e).1, fun e2 => ?_⟩⟩
    have e3 : g5 = a.block := by simpa [Value.ownBlock] using e2
    exact hg5 _ (by rw [e] at i1; exact i1.lt h0) (i2 h0 a n c e).2 e3
  · by_cases e : j = k2
    · subst e
      rw [updF_at]
      have hlt := fun q (hq : u.ownBlock = some q) => World.ownsRow.lt hu q hq
      refine ⟨(World.ownsRow.kept (IvL.low hu (Nat.zero_le _)) hg (ne_row fun q hq e2 => ?_)), fun q hq => ⟨fun e2 => ?_, fun e2 => ?_⟩⟩
      · have := l2 _ e2; have := (hlt q hq).1; omega
      · have := l1 _ e2; have := (hlt q hq).1; omega
      · have e3 : g5 = q := by simpa [Value.ownBlock] using e2
        obtain ⟨q1, q2⟩ := hlt q hq
        rcases hat with h3 | h3
        · have := l2 _ h3; omega
        · omega
    · have hj' : j < k2 := by omega
      rw [updF_ne e]
      obtain ⟨i1, i2⟩ := h.s2 j hj'
      refine ⟨World.ownsRow.kept (ivOwn_call i1 hb) hg (ne_row fun q hq => (i2 q hq).2), fun q hq => ⟨(i2 q hq).1, fun e2 => ?_⟩⟩
      have e3 : g5 = q := by simpa [Value.ownBlock] using e2
      exact hg5 q (World.ownsRow.lt i1 q hq).2 (i2 q hq).2 e3
/-- Sets in a row; rooms in a row. -/
def setV (f : Nat → Value) (n : Nat) : List Value := (List.range n).map f
theorem setV_upd (f : Nat → Value) (k : Nat) (u : Value) : setV (updF f k u) (k + 1) = setV f k ++ [u] := by
  unfold setV
  rw [List.range_succ, List.map_append, List.map_singleton, updF_at]
  congr 1
  exact List.map_congr_left fun j hj => updF_ne (by have := List.mem_range.1 hj; omega)
theorem roomV_upd (R : List Rm) (f : Nat → Value) (k : Nat) (u : Value) : roomV R (updF f k u) (k + 1) = roomV R f k ++ [.int .i64 (R.getD k rm0).1, u] := by
  rw [roomV_succ, updF_at]
  congr 1
  unfold roomV
  rw [List.flatMap_def, List.flatMap_def]
  congr 1
  refine List.map_congr_left fun j hj => ?_
  rw [updF_ne (by have := List.mem_range.1 hj; omega)]
/-- A row of the call's own as a list of sets. -/
theorem SetsR.own {w : World} {b n : Nat} {e : TypeId} {v : Value} {f : Nat → Value} {Ls : List (List Iv)} (hn : Ls.length = n) (h : w.ownsRow b e 1 v n ((List.range n).map f)) (hf : ∀ k, k < n → IvL w 0 (f k) (Ls.getD k [])) : SetsR w v Ls := by
  subst hn
  rcases h.2 with ⟨rfl, h0⟩ | ⟨g, cap, cur, rfl, _, hg, _⟩
  · exact ⟨none, 0, by rw [h0], fun h => absurd h (by omega), fun a h => by cases h⟩
  · refine ⟨some ⟨g, 0, none⟩, cap, rfl, fun _ => ⟨_, rfl⟩, fun a ha => ?_⟩
    injection ha with ha
    subst ha
    refine ⟨fun _ => (Array.getElem?_eq_some_iff.1 hg).1, fun k hk => ⟨f k, ?_, hf k hk⟩⟩
    exact World.ownsRow.cells h (g := g) rfl k (f k) (by simp [hk])
theorem RoomsR.own {w : World} {b n : Nat} {e : TypeId} {v : Value} {f : Nat → Value} {Rs : List Rm} (hn : Rs.length = n) (h : w.ownsRow b e 2 v n (roomV Rs f n)) (hf : ∀ k, k < n → IvL w 0 (f k) (Rs.getD k rm0).2) : RoomsR w v Rs := by
  subst hn
  rcases h.2 with ⟨rfl, h0⟩ | ⟨g, cap, cur, rfl, _, hg, _⟩
  · exact ⟨none, 0, by rw [h0], fun h => absurd h (by omega), fun a h => by cases h⟩
  · refine ⟨some ⟨g, 0, none⟩, cap, rfl, fun _ => ⟨_, rfl⟩, fun a ha => ?_⟩
    injection ha with ha
    subst ha
    refine ⟨fun _ => (Array.getElem?_eq_some_iff.1 hg).1, fun k hk => ?_⟩
    obtain ⟨e1, e2⟩ := roomV_at Rs f _ hk
    have c1 := World.ownsRow.cells h (g := g) rfl (k * 2) _ e1
    have c2 := World.ownsRow.cells h (g := g) rfl (k * 2 + 1) _ e2
    refine ⟨c1, f k, ?_, hf k hk⟩
    rw [Addr.add_lit] at c2 ⊢
    simpa [Nat.add_assoc] using c2
end Go.Proofs.YtbmndenopgkpoaaDoor
