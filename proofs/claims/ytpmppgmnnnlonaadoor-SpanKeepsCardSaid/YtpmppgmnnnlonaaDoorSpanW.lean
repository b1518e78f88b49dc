/- The document's CloseNet: its net under way. -/
import Derived.Test.YtpmppgmnnnlonaaDoorSpanV
import Derived.Maps.AppendAt
import Derived.Laws.OwnMore
import Derived.Deep.AppendLies
namespace Go.Proofs.YtpmppgmnnnlonaaDoor
open Go.RowKit
def hdrs (R cp : Nat → Nat) (n m : Nat) : List Value := (List.range m).map fun a => Value.slice (some ⟨R a, 0, none⟩) n (cp a)
theorem hdrs_at {R cp : Nat → Nat} {n m i : Nat} (h : i < m) : (hdrs R cp n m)[i]? = some (.slice (some ⟨R i, 0, none⟩) n (cp i)) := by simp [hdrs, h]
theorem hdrs_more {R cp : Nat → Nat} {n m g c : Nat} : hdrs R cp n m ++ [.slice (some ⟨g, 0, none⟩) n c] = hdrs (fun a => if a = m then g else R a) (fun a => if a = m then c else cp a) n (m + 1) := by
  unfold hdrs
  rw [List.range_succ, List.map_append]
  congr 1
  · refine List.map_congr_left fun a ha => ?_
    have := List.mem_range.1 ha
    simp [show a ≠ m by omega]
  · simp
/-- The net as far as it has been laid: the list of its rows is the call's own. -/
def DSt (w : World) (b T : Nat) (v : Value) (m n : Nat) (R cp : Nat → Nat) (X : Nat → Nat → Nat) (wr : World) : Prop :=
  wr.ownsRow b 66 1 v m (hdrs R cp n m) ∧ (∀ a, a < m → b ≤ R a ∧ R a < wr.heap.size ∧ v.ownBlock ≠ some (R a) ∧ ∀ k, k < n → wr.cell? ⟨R a, k, none⟩ = some (.int .i64 (X a k : Int)) ∧ wr.frozen? ⟨R a, k, none⟩ = false) ∧ (∀ i j, i < m → j < m → R i = R j → i = j) ∧ Tbl wr T (fun i => Sp.tab (i / 13) (i % 13)) ∧ Below w.heap.size w wr ∧ T < b ∧ w.heap.size ≤ b
theorem DSt.start {w w1 : World} {T n : Nat} (hT : Tbl w1 T (fun i => Sp.tab (i / 13) (i % 13))) (hB : Below w.heap.size w w1) : DSt w w1.heap.size T (.slice none 0 0) 0 n (fun _ => 0) (fun _ => 0) (fun _ _ => 0) w1 :=
  ⟨World.ownsRow_nil _ _ _ _, fun a ha => absurd ha (Nat.not_lt_zero a), fun i _ hi => absurd hi (Nat.not_lt_zero i), hT, hB, hT.1, hB.size⟩
theorem DSt.grow {w wr w2 w3 : World} {b T : Nat} {v v' : Value} {m n : Nat} {R cp : Nat → Nat} {X : Nat → Nat → Nat} (h : DSt w b T v m n R cp X wr) (hbz : b ≤ wr.heap.size) (hb : Below wr.heap.size wr w2) {g c : Nat} {Y : Nat → Nat} {e : TypeId}
    (hrow : w2.ownsRow wr.heap.size e 1 (.slice (some ⟨g, 0, none⟩) n c) n ((List.range n).map fun k => Value.int .i64 (Y k : Int))) (hg : wr.heap.size ≤ g) (hg2 : g < w2.heap.size) {o : Obj} (hgrow : (w2.alloc o).grownBy w3 v.ownBlock)
    (hown : w3.ownsRow b 66 1 v' (m + 1) (hdrs R cp n m ++ [.slice (some ⟨g, 0, none⟩) n c])) (hat : v'.ownBlock = v.ownBlock ∨ v'.ownBlock = some (w2.alloc o).heap.size) :
    DSt w b T v' (m + 1) n (fun a => if a = m then g else R a) (fun a => if a = m then c else cp a) (fun a k => if a = m then Y k else X a k) w3 := by
  obtain ⟨h1, h2, h3, h4, h5, h6, h7⟩ := h
  have hz := hb.size
  have hz3 := hgrow.size
  simp only [World.size_alloc] at hz3 hat
  have hvlt : ∀ k, v.ownBlock = some k → b ≤ k ∧ k < wr.heap.size := h1.lt
  have hbl : Below w.heap.size w w3 := ((h5.trans (hb.mono h5.size)).alloc (by have := h5.size; omega) o).grown hgrow (by have := h5.size; simp; omega) (fun k hk => by have := hvlt k hk; omega)
  have hcell : ∀ B k, B < w2.heap.size → v.ownBlock ≠ some B → w3.cell? ⟨B, k, none⟩ = w2.cell? ⟨B, k, none⟩ := fun B k hB hne => by
    rw [hgrow.cell_far (a := ⟨B, k, none⟩) (by simp; omega) (fun e => hne e.symm)]
    exact World.cell?_alloc_lt _ _ ⟨B, k, none⟩ hB
  have hfroz : ∀ B k, B < w2.heap.size → v.ownBlock ≠ some B → w3.frozen? ⟨B, k, none⟩ = w2.frozen? ⟨B, k, none⟩ := fun B k hB hne => by
    rw [hgrow.frozen_far (a := ⟨B, k, none⟩) (by simp; omega) (fun e => hne e.symm)]
    exact World.frozen?_alloc_old _ _ ⟨B, k, none⟩ (Nat.ne_of_lt hB)
  have hgv : v.ownBlock ≠ some g := fun e => by have := (hvlt g e).2; omega
  refine ⟨by rw [hdrs_more] at hown; exact hown, fun a ha => ?_, fun i j hi hj e => ?_, ?_, hbl, h6, h7⟩
  · by_cases e : a = m
    · subst e
      simp only [if_true]
      refine ⟨by omega, by omega, ?_, fun k hk => ⟨?_, ?_⟩⟩
      · rcases hat with hh | hh
        · rw [hh]; exact hgv
        · rw [hh]; intro x; injection x with x; omega
      · rw [hcell g k hg2 hgv, hrow.cellAt k (by omega)]; simp [hk]
      · rw [hfroz g k hg2 hgv, hrow.frozenAt k]
    · simp only [e, if_false]
      obtain ⟨g1, g2, g3, g4⟩ := h2 a (by omega)
      refine ⟨g1, by omega, ?_, fun k hk => ⟨?_, ?_⟩⟩
      · rcases hat with hh | hh
        · rw [hh]; exact g3
        · rw [hh]; intro x; injection x with x; omega
      · rw [hcell (R a) k (by omega) g3, hb.cell (p := ⟨R a, k, none⟩) g2]; exact (g4 k hk).1
      · rw [hfroz (R a) k (by omega) g3, hb.frozen (p := ⟨R a, k, none⟩) g2]; exact (g4 k hk).2
  · by_cases e1 : i = m
    · by_cases e2 : j = m
      · omega
      · simp only [e1, e2, if_true, if_false] at e
        have := (h2 j (by omega)).2.1; omega
    · by_cases e2 : j = m
      · simp only [e1, e2, if_true, if_false] at e
        have := (h2 i (by omega)).2.1; omega
      · simp only [e1, e2, if_false] at e
        exact h3 i j (by omega) (by omega) e
  · have hTv : v.ownBlock ≠ some T := fun e => by have := (hvlt T e).1; omega
    have hT2 := h4.call hb
    exact ⟨by have := hT2.1; omega, fun i hi => by rw [hcell T i hT2.1 hTv]; exact hT2.2.1 i hi, fun i => by rw [hfroz T i hT2.1 hTv]; exact hT2.2.2 i⟩
theorem DSt.call {w wr w' : World} {b T : Nat} {v : Value} {m n : Nat} {R cp : Nat → Nat} {X : Nat → Nat → Nat} (h : DSt w b T v m n R cp X wr) (hb : Below wr.heap.size wr w') : DSt w b T v m n R cp X w' := by
  obtain ⟨h1, h2, h3, h4, h5, h6, h7⟩ := h
  refine ⟨h1.kept (row := none) ⟨hb.os, hb.tape, hb.output, hb.size, fun k hk _ => hb.block k hk⟩ (by cases hv : v.ownBlock <;> simp), fun a ha => ?_, h3, h4.call hb, h5.trans (hb.mono h5.size), h6, h7⟩
  obtain ⟨g1, g2, g3, g4⟩ := h2 a ha
  exact ⟨g1, Nat.lt_of_lt_of_le g2 hb.size, g3, fun k hk => ⟨(hb.cell (p := ⟨R a, k, none⟩) g2).trans (g4 k hk).1, (hb.frozen (p := ⟨R a, k, none⟩) g2).trans (g4 k hk).2⟩⟩
theorem DSt.set {w wr : World} {b T : Nat} {v : Value} {m n : Nat} {R cp : Nat → Nat} {X : Nat → Nat → Nat} (h : DSt w b T v m n R cp X wr) {i j : Nat} (hi : i < m) (hj : j < n) (u : Nat) : DSt w b T v m n R cp (setX X i j u) (wr.setCell ⟨R i, j, none⟩ (.int .i64 (u : Int))) := by
  obtain ⟨h1, h2, h3, h4, h5, h6, h7⟩ := h
  have hz : (wr.setCell ⟨R i, j, none⟩ (.int .i64 (u : Int))).heap.size = wr.heap.size := by simp [World.setCell]
  obtain ⟨f1, f2, f3, f4⟩ := h2 i hi
  refine ⟨h1.kept (row := some (R i)) ⟨rfl, rfl, rfl, by rw [hz]; exact Nat.le_refl _, fun k hk hne => Below.heap_setCell wr _ _ k (by show k ≠ R i; exact fun e => hne (by rw [e]))⟩ (.inr f3), fun a ha => ?_, h3, h4.far (by show T ≠ R i; omega) _, h5.setCell (by show w.heap.size ≤ R i; omega) _, h6, h7⟩
  obtain ⟨g1, g2, g3, g4⟩ := h2 a ha
  refine ⟨g1, by rw [hz]; exact g2, g3, fun k hk => ⟨?_, by rw [World.frozen?_setCell]; exact (g4 k hk).2⟩⟩
  by_cases e : a = i ∧ k = j
  · obtain ⟨rfl, rfl⟩ := e
    rw [World.cell?_setCell_same _ _ _ (g4 k hk).1, setX_at]
  · rw [World.cell?_setCell_other _ _ _ _ (by
      intro hh
      have e1 := congrArg Addr.block hh
      have e2 := congrArg Addr.off hh
      exact e ⟨(h3 i a hi ha e1).symm, e2.symm⟩), setX_off e]
    exact (g4 k hk).1
theorem DSt.form {w wr : World} {b T : Nat} {v : Value} {m n : Nat} {R cp : Nat → Nat} {X : Nat → Nat → Nat} (h : DSt w b T v m n R cp X wr) (hm : 0 < m) : ∃ O c, v = .slice (some ⟨O, 0, none⟩) m c ∧ b ≤ O ∧ O < wr.heap.size ∧ (∀ i, i < m → wr.cell? ⟨O, i, none⟩ = some (.slice (some ⟨R i, 0, none⟩) n (cp i)) ∧ R i ≠ O) ∧ ∀ i, wr.frozen? ⟨O, i, none⟩ = false := by
  obtain ⟨h1, h2, _⟩ := h
  obtain ⟨O, c, rfl, hb, hlt⟩ := h1.form hm
  exact ⟨O, c, rfl, hb, hlt, fun i hi => ⟨by rw [h1.cellAt i (by omega)]; exact hdrs_at hi, fun e => (h2 i hi).2.2.1 (by rw [e]; rfl)⟩, fun i => h1.frozenAt i⟩
theorem DSt.toC {w wr : World} {b T O c : Nat} {n : Nat} {R cp : Nat → Nat} {X : Nat → Nat → Nat} (h : DSt w b T (.slice (some ⟨O, 0, none⟩) n c) n n R cp X wr) (hn : 0 < n) : CSt w b O T n n R cp X wr := by
  obtain ⟨O', c', e, h8, h9, h10, h11⟩ := h.form hn
  simp only [Value.slice.injEq, Option.some.injEq, Addr.mk.injEq, true_and, and_true] at e
  obtain ⟨rfl, rfl⟩ := e
  obtain ⟨h1, h2, h3, h4, h5, h6, h7⟩ := h
  refine ⟨⟨⟨h8, h9⟩, fun i hi => ?_, h3⟩, fun j hj => ⟨by rw [(h10 j hj).1]; rfl, h11 j⟩, h4, h5, h6, h7⟩
  obtain ⟨g1, g2, g3, g4⟩ := h2 i hi
  exact ⟨(h10 i hi).1, g1, g2, (h10 i hi).2, g4⟩
end Go.Proofs.YtpmppgmnnnlonaaDoor
