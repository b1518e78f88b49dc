/- A place in a text: a box of the text and of the place, which a call moves on; what else there was stands. -/
import Derived.Test.YtkfpnlenmdlmjaaGreatDoorMore
import Derived.Lib.Hide
namespace Go.Proofs.YtkfpnlenmdlmjaaGreatDoor
open Go.RowKit
/-- Of what was there nothing but block b has turned. -/
def Only (b : Nat) (w w' : World) : Prop := Below b w w' ∧ ∀ k, k < w.heap.size → k ≠ b → w'.heap[k]? = w.heap[k]?
theorem Only.refl (b : Nat) (w : World) : Only b w w := ⟨Below.refl _ _, fun _ _ _ => rfl⟩
theorem Only.trans {b : Nat} {w w1 w2 : World} (h : Only b w w1) (g : Only b w1 w2) : Only b w w2 :=
  ⟨h.1.trans g.1, fun k hk hb => (g.2 k (Nat.lt_of_lt_of_le hk h.1.size) hb).trans (h.2 k hk hb)⟩
theorem Only.of {b : Nat} {w w' : World} (h : Below w.heap.size w w') (hb : b ≤ w.heap.size) : Only b w w' := ⟨h.mono hb, fun k hk _ => h.block k hk⟩
theorem Only.then {b : Nat} {w w1 w2 : World} (h : Only b w w1) (g : Below w1.heap.size w1 w2) (hb : b ≤ w.heap.size) : Only b w w2 := h.trans (Only.of g (Nat.le_trans hb h.1.size))
theorem Only.setCell {b : Nat} {w w' : World} (h : Only b w w') (o : Nat) (v : Value) : Only b w (w'.setCell ⟨b, o, none⟩ v) :=
  h.trans ⟨(Below.refl _ _).setCell (p := ⟨b, o, none⟩) (Nat.le_refl b) v, fun _ _ hb => Below.heap_setCell _ _ _ _ hb⟩
theorem Only.alloc {b : Nat} {w w' : World} (h : Only b w w') (hb : b ≤ w.heap.size) (o : Obj) : Only b w (w'.alloc o) := h.then ((Below.refl _ _).alloc (Nat.le_refl _) o) hb
theorem Only.drew {b : Nat} {w w' : World} (h : Only b w w') : Only b w w'.drew := ⟨h.1.drew, h.2⟩
theorem Only.drewN {b : Nat} {w w' : World} (h : Only b w w') (n : Nat) : Only b w (w'.drewN n) := ⟨below_drewN h.1 n, h.2⟩
theorem Only.cell {b : Nat} {w w' : World} (h : Only b w w') {p : Addr} (hl : p.block < w.heap.size) (hne : p.block ≠ b) : w'.cell? p = w.cell? p := World.cell?_of_block (w := w) (h.2 p.block hl hne)
theorem Only.frozen {b : Nat} {w w' : World} (h : Only b w w') {p : Addr} (hl : p.block < w.heap.size) (hne : p.block ≠ b) : w'.frozen? p = w.frozen? p := World.frozen?_of_block (w := w) (h.2 p.block hl hne)
theorem Only.new {b : Nat} {w w0 w' : World} (h : Only b w0 w') (h0 : Below w.heap.size w w0) (hb : w.heap.size ≤ b) : Below w.heap.size w w' := h0.trans (h.1.mono hb)
/-- The box of a place in a text. -/
def ScanAt (b : Nat) (s : ByteArray) (k : Int) (w : World) : Prop :=
  b < w.heap.size ∧ w.cell? ⟨b, 0, none⟩ = some (.string s) ∧ w.cell? ⟨b, 1, none⟩ = some (.int .i64 k) ∧ w.frozen? ⟨b, 1, none⟩ = false
theorem ScanAt.call {b : Nat} {s : ByteArray} {k : Int} {w w' : World} (h : ScanAt b s k w) (hb : Below w.heap.size w w') : ScanAt b s k w' :=
  ⟨Nat.lt_of_lt_of_le h.1 hb.size, (hb.cell (p := ⟨b, 0, none⟩) h.1).trans h.2.1, (hb.cell (p := ⟨b, 1, none⟩) h.1).trans h.2.2.1, (hb.frozen (p := ⟨b, 1, none⟩) h.1).trans h.2.2.2⟩
theorem ScanAt.only {b c : Nat} {s : ByteArray} {k : Int} {w w' : World} (h : ScanAt b s k w) (hb : Only c w w') (hne : b ≠ c) : ScanAt b s k w' :=
  ⟨Nat.lt_of_lt_of_le h.1 hb.1.size, (hb.cell (p := ⟨b, 0, none⟩) h.1 hne).trans h.2.1, (hb.cell (p := ⟨b, 1, none⟩) h.1 hne).trans h.2.2.1, (hb.frozen (p := ⟨b, 1, none⟩) h.1 hne).trans h.2.2.2⟩
theorem ScanAt.alloc {b : Nat} {s : ByteArray} {k : Int} {w : World} (h : ScanAt b s k w) (o : Obj) : ScanAt b s k (w.alloc o) := h.call ((Below.refl _ _).alloc (Nat.le_refl _) o)
theorem ScanAt.set {b : Nat} {s : ByteArray} {k : Int} {w : World} (h : ScanAt b s k w) (k' : Int) : ScanAt b s k' (w.setCell ⟨b, 1, none⟩ (.int .i64 k')) :=
  ⟨by simp [World.setCell]; exact h.1, by rw [World.cell?_setCell_other _ _ _ _ (by intro e; have := congrArg Addr.off e; simp at this)]; exact h.2.1, World.cell?_setCell_same _ _ _ h.2.2.1, by rw [World.frozen?_setCell]; exact h.2.2.2⟩
theorem ScanAt.drewN {b : Nat} {s : ByteArray} {k : Int} {w : World} (h : ScanAt b s k w) (n : Nat) : ScanAt b s k (w.drewN n) := h
theorem ScanAt.new (w : World) (s : ByteArray) (k : Int) (t : TypeId) : ScanAt w.heap.size s k (w.alloc (.cells #[.string s, .int .i64 k] t)) := ⟨by simp, by simp, by simp, by simp⟩
/-- What a call on a place answers: the place has moved on, what else there was stands. -/
def ScPost (b : Nat) (s : ByteArray) (w : World) (v : Value) (k : Int) (e : Ending) (w' : World) : Prop := e = .returned v ∧ ScanAt b s k w' ∧ Only b w w'
theorem quiet_add {P : Program} {f : FuncId} {args : Array Value} {w : World} {a n : Nat} {v : Value} (h : Calls P f args (w.drewN (a + n)) fun e w' => e = .returned v ∧ ∃ m, w' = (w.drewN (a + n)).drewN m) : Calls P f args (w.drewN (a + n)) fun e w'' => e = .returned v ∧ ∃ m, w'' = w.drewN (a + m) :=
  h.mono fun _ _ ⟨he, m, hm⟩ => ⟨he, n + m, by rw [hm, World.drewN_drewN, Nat.add_assoc]⟩
theorem quiet_add_same {P : Program} {f : FuncId} {args : Array Value} {w : World} {a n : Nat} {v : Value} (h : Calls P f args (w.drewN (a + n)) fun e w' => e = .returned v ∧ w' = w.drewN (a + n)) : Calls P f args (w.drewN (a + n)) fun e w'' => e = .returned v ∧ ∃ m, w'' = w.drewN (a + m) :=
  h.mono fun _ _ ⟨he, hm⟩ => ⟨he, n, hm⟩
end Go.Proofs.YtkfpnlenmdlmjaaGreatDoor
