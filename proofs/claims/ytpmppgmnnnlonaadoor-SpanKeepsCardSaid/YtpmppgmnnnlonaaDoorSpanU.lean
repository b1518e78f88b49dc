/- The program's Close: its net under way. -/
import Derived.Test.YtpmppgmnnnlonaaDoorSpanT
import Derived.Laws.MakeOwn
namespace Go.Proofs.YtpmppgmnnnlonaaDoor
open Go.RowKit
theorem made_at (v : Value) (n i : Nat) (h : i < n) : (madeCells #[v] (n * 1))[i]? = some v := by
  simp [madeCells, h, Nat.mod_one]
theorem sets_info : (Tryd.prog.info? 27).map (fun i => (i.zero, i.size, i.bytes)) = some (some (.int .i64 0), 1, 8) := by kernel_rfl
theorem rows_info : (Tryd.prog.info? 66).map (fun i => (i.zero, i.size, i.bytes)) = some (some (.slice none 0 0), 1, 24) := by kernel_rfl
theorem make_sets (n : Nat) (hn : n ≤ 1000) : ∃ M : Array Value, (∀ i, i < n → M[i]? = some (.int .i64 0)) ∧ ∀ w, (Instr.makeSlice 66 (.int .i64 (n : Int)) (.int .i64 (n : Int))).run Tryd.prog w = .ok (.slice (some ⟨w.heap.size, 0, none⟩) n n) (w.alloc (.cells M 27)) := by
  obtain ⟨i0, hi, hz0, hz1, hz2⟩ := info_parts sets_info
  refine ⟨madeCells #[.int .i64 0] (n * 1), fun i hi => made_at _ n i hi, fun w => ?_⟩
  have h := run_make w 66 27 i0 (.int .i64 0) Tryd.underlying66 hi hz0 .i64 .i64 n n (by omega) (Int.le_refl _) (by rw [hz2]; omega) (by omega)
  rw [hz1, Int.toNat_natCast] at h
  exact h
theorem make_rows (n : Nat) (hn : n ≤ 1000) : ∃ M : Array Value, (∀ i, i < n → M[i]? = some (.slice none 0 0)) ∧ ∀ w, (Instr.makeSlice 36 (.int .i64 (n : Int)) (.int .i64 (n : Int))).run Tryd.prog w = .ok (.slice (some ⟨w.heap.size, 0, none⟩) n n) (w.alloc (.cells M 66)) := by
  obtain ⟨i0, hi, hz0, hz1, hz2⟩ := info_parts rows_info
  refine ⟨madeCells #[.slice none 0 0] (n * 1), fun i hi => made_at _ n i hi, fun w => ?_⟩
  have h := run_make w 36 66 i0 (.slice none 0 0) Tryd.underlying36 hi hz0 .i64 .i64 n n (by omega) (Int.le_refl _) (by rw [hz2]; omega) (by omega)
  rw [hz1, Int.toNat_natCast] at h
  exact h
/-- The net under way; the table; nothing else has turned. -/
def CSt (w : World) (b O T m n : Nat) (R cp : Nat → Nat) (X : Nat → Nat → Nat) (wr : World) : Prop :=
  MatR wr b O m n R cp X ∧ (∀ j, j < n → (wr.cell? ⟨O, j, none⟩).isSome = true ∧ wr.frozen? ⟨O, j, none⟩ = false) ∧ Tbl wr T (fun i => Sp.tab (i / 13) (i % 13)) ∧ Below w.heap.size w wr ∧ T < b ∧ w.heap.size ≤ b
section
variable {w wr w' : World} {b O T m n : Nat} {R cp : Nat → Nat} {X : Nat → Nat → Nat}
theorem CSt.call (h : CSt w b O T m n R cp X wr) (hb : Below wr.heap.size wr w') : CSt w b O T m n R cp X w' := by
  obtain ⟨h1, h2, h3, h4, h5⟩ := h
  refine ⟨h1.call hb, fun j hj => ?_, h3.call hb, h4.trans (hb.mono h4.size), h5⟩
  have hO := h1.1.2
  exact ⟨by rw [hb.cell (p := ⟨O, j, none⟩) hO]; exact (h2 j hj).1, by rw [hb.frozen (p := ⟨O, j, none⟩) hO]; exact (h2 j hj).2⟩
theorem CSt.alloc (h : CSt w b O T m n R cp X wr) (o : Obj) : CSt w b O T m n R cp X (wr.alloc o) := h.call (Below.alloc (Below.refl _ _) (Nat.le_refl _) _)
theorem CSt.drewN (h : CSt w b O T m n R cp X wr) (k : Nat) : CSt w b O T m n R cp X (wr.drewN k) := by
  obtain ⟨h1, h2, h3, h4, h5⟩ := h
  exact ⟨h1, h2, h3, below_drewN h4 k, h5⟩
theorem CSt.congr {Y : Nat → Nat → Nat} (h : CSt w b O T m n R cp X wr) (e : ∀ i k, i < m → k < n → X i k = Y i k) : CSt w b O T m n R cp Y wr := by
  obtain ⟨h1, h2⟩ := h
  exact ⟨h1.congr e, h2⟩
theorem Tbl.far {B : Nat} {f : Nat → Nat} (h : Tbl wr B f) {p : Addr} (hp : B ≠ p.block) (u : Value) : Tbl (wr.setCell p u) B f :=
  ⟨by have := h.1; simpa [World.setCell] using this, fun i hi => (World.cell?_of_block (Below.heap_setCell wr p u B hp)).trans (h.2.1 i hi), fun i => by rw [World.frozen?_setCell]; exact h.2.2 i⟩
theorem CSt.set (h : CSt w b O T m n R cp X wr) {i j : Nat} (hi : i < m) (hj : j < n) (v : Nat) : CSt w b O T m n R cp (setX X i j v) (wr.setCell ⟨R i, j, none⟩ (.int .i64 (v : Int))) := by
  obtain ⟨h1, h2, h3, h4, h5, h6⟩ := h
  obtain ⟨g1, g2, g3, g4, g5⟩ := h1.2.1 i hi
  refine ⟨h1.set hi hj v, fun k hk => ⟨?_, by rw [World.frozen?_setCell]; exact (h2 k hk).2⟩, h3.far (by show T ≠ R i; omega) _, h4.setCell (by show w.heap.size ≤ R i; omega) _, h5, h6⟩
  rw [World.cell?_setCell_other _ _ _ _ (by intro e; exact g4 (congrArg Addr.block e))]
  exact (h2 k hk).1
/-- One row more. -/
theorem CSt.grow (h : CSt w b O T m n R cp X wr) (hm : m < n) {M : Array Value} {t : TypeId} (hM : ∀ k, k < n → M[k]? = some (.int .i64 0)) :
    CSt w b O T (m + 1) n (fun i => if i = m then wr.heap.size else R i) (fun i => if i = m then n else cp i) (fun i k => if i = m then 0 else X i k) ((wr.alloc (.cells M t)).setCell ⟨O, m, none⟩ (.slice (some ⟨wr.heap.size, 0, none⟩) n n)) := by
  have ha := h.alloc (.cells M t)
  obtain ⟨h1, h2, h3, h4, h5, h6⟩ := ha
  have hO := h.1.1
  have hb2 : b ≤ wr.heap.size := by omega
  have hx : MatR (wr.alloc (.cells M t)) b O m n R cp (fun i k => if i = m then 0 else X i k) := h1.congr fun i k hi _ => by simp [show i ≠ m by omega]
  refine ⟨hx.grow (c := n) hb2 (by simp) (by omega) (fun i hi => ?_) (h2 m hm).1 (fun k hk => ⟨?_, by simp⟩), fun j hj => ⟨?_, by rw [World.frozen?_setCell]; exact (h2 j hj).2⟩, h3.far (by show T ≠ O; omega) _, h4.setCell (by show w.heap.size ≤ O; omega) _, h5, h6⟩
  · have := (h.1.2.1 i hi).2.2.1; omega
  · rw [World.cell?_alloc_at _ _ _ _ (by simp)]
    simpa using hM k hk
  · by_cases e : j = m
    · subst e
      obtain ⟨u, hu⟩ := Option.isSome_iff_exists.1 (h2 j hj).1
      rw [World.cell?_setCell_same _ _ _ hu]; rfl
    · rw [World.cell?_setCell_other _ _ _ _ (by intro x; exact e (congrArg Addr.off x).symm)]
      exact (h2 j hj).1
/-- The cells of a row, as a walk wants them. -/
theorem CSt.row (h : CSt w b O T m n R cp X wr) {i k : Nat} (hi : i < m) (hk : k < n) : wr.cell? ⟨O, i, none⟩ = some (.slice (some ⟨R i, 0, none⟩) n (cp i)) ∧ wr.cell? ⟨R i, k, none⟩ = some (.int .i64 (X i k : Int)) ∧ wr.frozen? ⟨R i, k, none⟩ = false := by
  obtain ⟨g1, g2, g3, g4, g5⟩ := h.1.2.1 i hi
  exact ⟨g1, (g5 k hk).1, (g5 k hk).2⟩
end
/-- The net at the start. -/
noncomputable def startX (N : Nat → Nat → Nat) (i k : Nat) : Nat := if i = k then (N i k &&& backN (N k i)) &&& 64 else N i k &&& backN (N k i)
theorem back_Q (s : Nat) (w : World) (hs : s < 8192) : Calls Tryd.prog 48 #[.int .i64 (s : Int)] w fun e w' => e = .returned (.int .i64 (backN s : Int)) ∧ Below w.heap.size w w' := by
  refine (back_any s w hs).mono ?_
  rintro e w' ⟨rfl, rfl⟩
  exact ⟨rfl, Below.refl _ _⟩
theorem tjoin_Q (B p q : Nat) (w : World) (hp : p < 8192) (hq : q < 8192) (hT : Tbl w B (fun i => Sp.tab (i / 13) (i % 13))) : Calls Tryd.prog 47 #[.pointer (some ⟨B, 0, none⟩), .int .i64 (p : Int), .int .i64 (q : Int)] w fun e w' => e = .returned (.int .i64 (joinN p q : Int)) ∧ Below w.heap.size w w' := by
  refine (tjoin_any B p q w hp hq hT).mono ?_
  rintro e w' ⟨s, rfl, hs, rfl⟩
  rw [join_end hs]
  exact ⟨rfl, Below.refl _ _⟩
/-- A cell of a net that came in, as a set. -/
theorem NetR.at {w : World} {a : Addr} {n : Nat} {A : Nat → Option Addr} {L C : Nat → Nat} {z : Nat → Nat → Int} (h : NetR w (some a) n A L C z) {i k : Nat} (hi : i < n) (hL : L i = n) (hk : k < n) (hz : okS (z i k)) : ∃ r, w.cell? (a.add i) = some (.slice (some r) n (C i)) ∧ w.cell? (r.add k) = some (.int .i64 (((z i k).toNat : Nat) : Int)) := by
  obtain ⟨h1, h2, h3⟩ := (h.2 a rfl).2 i hi
  obtain ⟨r, hr⟩ := h2 (by omega)
  obtain ⟨_, h4⟩ := h3 r hr
  rw [hr, hL] at h1
  refine ⟨r, h1, ?_⟩
  rw [h4 k (by omega), Int.toNat_of_nonneg hz.1]
end Go.Proofs.YtpmppgmnnnlonaaDoor
