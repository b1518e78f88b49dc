/- Small general lemmas: draws and frames, and what a walk ends with. -/
import Derived.Test.YtbmndenopgkpoaaDoorTell
import Derived.Deep.QuietTactic
import Derived.BigQuiet
namespace Go.Proofs.YtbmndenopgkpoaaDoor
open Go.RowKit
theorem below_drewN {B : Nat} {a w : World} (h : Below B a w) (n : Nat) : Below B a (w.drewN n) := ⟨h.os, h.tape, h.output, h.size, h.block⟩
theorem below_drew {B : Nat} {a w : World} (h : Below B a w) : Below B a w.drew := ⟨h.os, h.tape, h.output, h.size, h.block⟩
theorem ErrT.drewN {w : World} (h : ErrT w) (n : Nat) : ErrT (w.drewN n) := h
/-- A box of two whole numbers. -/
def Two (w : World) (B : Nat) (a b : Int) : Prop := B < w.heap.size ∧ w.cell? ⟨B, 0, none⟩ = some (.int .i64 a) ∧ w.cell? ⟨B, 1, none⟩ = some (.int .i64 b)
theorem Two.alloc {w : World} {B : Nat} {a b : Int} (h : Two w B a b) (o : Obj) : Two (w.alloc o) B a b :=
  ⟨by have := h.1; simp; omega, (World.cell?_alloc_lt w o ⟨B, 0, none⟩ h.1).trans h.2.1, (World.cell?_alloc_lt w o ⟨B, 1, none⟩ h.1).trans h.2.2⟩
theorem Two.call {w w' : World} {B : Nat} {a b : Int} (h : Two w B a b) (hb : Below w.heap.size w w') : Two w' B a b :=
  ⟨Nat.lt_of_lt_of_le h.1 hb.size, (hb.cell (p := ⟨B, 0, none⟩) h.1).trans h.2.1, (hb.cell (p := ⟨B, 1, none⟩) h.1).trans h.2.2⟩
theorem Two.drewN {w : World} {B : Nat} {a b : Int} (h : Two w B a b) (n : Nat) : Two (w.drewN n) B a b := h
theorem Two.new (w : World) (a b : Int) (t : TypeId) : Two (w.alloc (.cells #[.int .i64 a, .int .i64 b] t)) w.heap.size a b := ⟨by simp, by simp, by simp⟩
end Go.Proofs.YtbmndenopgkpoaaDoor
