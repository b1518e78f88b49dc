/- What the list of variables gives of the months' table. Small general lemmas: draws and frames, and what a walk ends with. A place in a text: a box of the text and of the place, which a call moves on; what else there was stands. Plain: digits in a text, numbers, units of a period (no program in sight). -/
import Derived.Test.YtkfpnlenmdlmjaaGreatDoorZFrame
import Derived.Test.YtkfpnlenmdlmjaaGreatDoorZDaysC
import Derived.Test.YtkfpnlenmdlmjaaGreatDoorZTell
import Derived.Deep.QuietTactic
import Derived.BigQuiet
import Derived.Lib.Hide
namespace Go.Proofs.YtkfpnlenmdlmjaaGreatDoor
open Go.RowKit
theorem Tryz.gRoman : Tryz.prog.globalNamed "almanac/days.roman" = some 2 := by kernel_rfl
theorem Tryz.gRomanType : (Tryz.prog.globals[2]?).map (·.type) = some 223 := by kernel_rfl
theorem Tryz.cellsRoman : Tryz.prog.cellsOf 223 = 12 := by kernel_rfl
theorem Tryz.cellsInt : Tryz.prog.cellsOf 3 = 1 := by kernel_rfl
theorem romanT_laid {l : List (String × DataW Unit)} {W : World} (hl : (l.filter fun x => x.2.handleName?.isNone) = [("almanac/days.roman", Rows.laid_almanac_days_roman)]) (h : laidMetH Tryz.prog l W) : RomanT W := by
  have h1 := (laidMetH_iff.1 h).1
  rw [hl] at h1
  have ht : Lib.TabIs Tryz.prog W "almanac/days.roman" .i64 [31, 28, 31, 30, 31, 30, 31, 31, 30, 31, 30, 31] :=
    Lib.tabIs_of_head (rest := []) Tryz.gRoman Tryz.gRomanType Tryz.underlying223 Tryz.underlying3 Tryz.cellsInt Tryz.cellsRoman h1
  exact fun i hi => ht.cell Tryz.gRoman i hi
end Go.Proofs.YtkfpnlenmdlmjaaGreatDoor
namespace Go.Proofs.YtkfpnlenmdlmjaaGreatDoor
open Go.RowKit
theorem below_drewN {B : Nat} {a w : World} (h : Below B a w) (n : Nat) : Below B a (w.drewN n) := ⟨h.os, h.tape, h.output, h.size, h.block⟩
theorem ErrT.drewN {w : World} (h : ErrT w) (n : Nat) : ErrT (w.drewN n) := h
/-- A box of two whole numbers. -/
def Two (w : World) (B : Nat) (a b : Int) : Prop := B < w.heap.size ∧ w.cell? ⟨B, 0, none⟩ = some (.int .i64 a) ∧ w.cell? ⟨B, 1, none⟩ = some (.int .i64 b)
theorem Two.alloc {w : World} {B : Nat} {a b : Int} (h : Two w B a b) (o : Obj) : Two (w.alloc o) B a b :=
  ⟨by have := h.1; simp; omega, (World.cell?_alloc_lt w o ⟨B, 0, none⟩ h.1).trans h.2.1, (World.cell?_alloc_lt w o ⟨B, 1, none⟩ h.1).trans h.2.2⟩
theorem Two.call {w w' : World} {B : Nat} {a b : Int} (h : Two w B a b) (hb : Below w.heap.size w w') : Two w' B a b :=
  ⟨Nat.lt_of_lt_of_le h.1 hb.size, (hb.cell (p := ⟨B, 0, none⟩) h.1).trans h.2.1, (hb.cell (p := ⟨B, 1, none⟩) h.1).trans h.2.2⟩
theorem Two.drewN {w : World} {B : Nat} {a b : Int} (h : Two w B a b) (n : Nat) : Two (w.drewN n) B a b := h
theorem Two.new (w : World) (a b : Int) (t : TypeId) : Two (w.alloc (.cells #[.int .i64 a, .int .i64 b] t)) w.heap.size a b := ⟨by simp, by simp, by simp⟩
end Go.Proofs.YtkfpnlenmdlmjaaGreatDoor
namespace Go.Proofs.YtkfpnlenmdlmjaaGreatDoor
open Go.RowKit
/-- Of what was there nothing but block b has turned. -/
def Only (b : Nat) (w w' : World) : Prop := Below b w w' ∧ ∀ k, k < w.heap.size → k ≠ b → w'.heap[k]? = w.heap[k]?
theorem Only.refl (b : Nat) (w : World) : Only b w w := ⟨Below.refl _ _, fun _ _ _ => rfl⟩
theorem Only.trans {b : Nat} {w w1 w2 : World} (h : Only b w w1) (g : Only b w1 w2) : Only b w w2 :=
  ⟨h.1.trans g.1, fun k hk hb => (g.2 k (Nat.lt_of_lt_of_le hk h.1.size) hb).trans (h.2 k hk hb)⟩
theorem Only.of {b : Nat} {w w' : World} (h : Below w.heap.size w w') (hb : b ≤ w.heap.size) : Only b w w' := ⟨h.mono hb, fun k hk _ => h.block k hk⟩
theorem Only.then {b : Nat} {w w1 w2 : World} (h : Only b w w1) (g : Below w1.heap.size w1 w2) (hb : b ≤ w.heap.size) : Only b w w2 := h.trans (Only.of g (Nat.le_trans hb h.1.size))
theorem Only.setCell {b : Nat} {w w' : World} (h : Only b w w') (o : Nat) (v : Value) : Only b w (w'.setCell ⟨b, o, none⟩ v) :=
  h.trans ⟨(Below.refl _ _).setCell (p := ⟨b, o, none⟩) (Nat.le_refl b) v, fun _ _ hb => Below.heap_setCell _ _ _ _ hb⟩
theorem Only.alloc {b : Nat} {w w' : World} (h : Only b w w') (hb : b ≤ w.heap.size) (o : Obj) : Only b w (w'.alloc o) := h.then ((Below.refl _ _).alloc (Nat.le_refl _) o) hb
theorem Only.drew {b : Nat} {w w' : World} (h : Only b w w') : Only b w w'.drew := ⟨h.1.drew, h.2⟩
theorem Only.drewN {b : Nat} {w w' : World} (h : Only b w w') (n : Nat) : Only b w (w'.drewN n) := ⟨below_drewN h.1 n, h.2⟩
theorem Only.cell {b : Nat} {w w' : World} (h : Only b w w') {p : Addr} (hl : p.block < w.heap.size) (hne : p.block ≠ b) : w'.cell? p = w.cell? p := World.cell?_of_block (w := w) (h.2 p.block hl hne)
theorem Only.frozen {b : Nat} {w w' : World} (h : Only b w w') {p : Addr} (hl : p.block < w.heap.size) (hne : p.block ≠ b) : w'.frozen? p = w.frozen? p := World.frozen?_of_block (w := w) (h.2 p.block hl hne)
theorem Only.new {b : Nat} {w w0 w' : World} (h : Only b w0 w') (h0 : Below w.heap.size w w0) (hb : w.heap.size ≤ b) : Below w.heap.size w w' := h0.trans (h.1.mono hb)
/-- The box of a place in a text. -/
def ScanAt (b : Nat) (s : ByteArray) (k : Int) (w : World) : Prop :=
  b < w.heap.size ∧ w.cell? ⟨b, 0, none⟩ = some (.string s) ∧ w.cell? ⟨b, 1, none⟩ = some (.int .i64 k) ∧ w.frozen? ⟨b, 1, none⟩ = false
theorem ScanAt.call {b : Nat} {s : ByteArray} {k : Int} {w w' : World} (h : ScanAt b s k w) (hb : Below w.heap.size w w') : ScanAt b s k w' :=
  ⟨Nat.lt_of_lt_of_le h.1 hb.size, (hb.cell (p := ⟨b, 0, none⟩) h.1).trans h.2.1, (hb.cell (p := ⟨b, 1, none⟩) h.1).trans h.2.2.1, (hb.frozen (p := ⟨b, 1, none⟩) h.1).trans h.2.2.2⟩
theorem ScanAt.only {b c : Nat} {s : ByteArray} {k : Int} {w w' : World} (h : ScanAt b s k w) (hb : Only c w w') (hne : b ≠ c) : ScanAt b s k w' :=
  ⟨Nat.lt_of_lt_of_le h.1 hb.1.size, (hb.cell (p := ⟨b, 0, none⟩) h.1 hne).trans h.2.1, (hb.cell (p := ⟨b, 1, none⟩) h.1 hne).trans h.2.2.1, (hb.frozen (p := ⟨b, 1, none⟩) h.1 hne).trans h.2.2.2⟩
theorem ScanAt.alloc {b : Nat} {s : ByteArray} {k : Int} {w : World} (h : ScanAt b s k w) (o : Obj) : ScanAt b s k (w.alloc o) := h.call ((Below.refl _ _).alloc (Nat.le_refl _) o)
theorem ScanAt.set {b : Nat} {s : ByteArray} {k : Int} {w : World} (h : ScanAt b s k w) (k' : Int) : ScanAt b s k' (w.setCell ⟨b, 1, none⟩ (.int .i64 k')) :=
  ⟨by simp [World.setCell]; exact h.1, by rw [World.cell?_setCell_other _ _ _ _ (by intro e; have := congrArg Addr.off e; simp at this)]; exact h.2.1, World.cell?_setCell_same _ _ _ h.2.2.1, by rw [World.frozen?_setCell]; exact h.2.2.2⟩
theorem ScanAt.drewN {b : Nat} {s : ByteArray} {k : Int} {w : World} (h : ScanAt b s k w) (n : Nat) : ScanAt b s k (w.drewN n) := h
theorem ScanAt.new (w : World) (s : ByteArray) (k : Int) (t : TypeId) : ScanAt w.heap.size s k (w.alloc (.cells #[.string s, .int .i64 k] t)) := ⟨by simp, by simp, by simp, by simp⟩
/-- What a call on a place answers: the place has moved on, what else there was stands. -/
def ScPost (b : Nat) (s : ByteArray) (w : World) (v : Value) (k : Int) (e : Ending) (w' : World) : Prop := e = .returned v ∧ ScanAt b s k w' ∧ Only b w w'
theorem quiet_add_same {P : Program} {f : FuncId} {args : Array Value} {w : World} {a n : Nat} {v : Value} (h : Calls P f args (w.drewN (a + n)) fun e w' => e = .returned v ∧ w' = w.drewN (a + n)) : Calls P f args (w.drewN (a + n)) fun e w'' => e = .returned v ∧ ∃ m, w'' = w.drewN (a + m) :=
  h.mono fun _ _ ⟨he, hm⟩ => ⟨he, n, hm⟩
end Go.Proofs.YtkfpnlenmdlmjaaGreatDoor
namespace Scm
/-- Is it a digit? -/
def dig (c : UInt8) : Bool := decide (48 ≤ c.toNat) && decide (c.toNat ≤ 57)
theorem dig_ok {c : UInt8} (h1 : 48 ≤ c.toNat) (h2 : c.toNat ≤ 57) : dig c = true := by simp [dig, h1, h2]
theorem dig_lo {c : UInt8} (h1 : ¬ 48 ≤ c.toNat) : dig c = false := by simp [dig]; omega
theorem dig_hi {c : UInt8} (h1 : ¬ c.toNat ≤ 57) : dig c = false := by simp [dig]; omega
theorem dig_iff {c : UInt8} : dig c = true ↔ 48 ≤ c.toNat ∧ c.toNat ≤ 57 := by simp [dig]
/-- How many digits stand ahead. -/
def cnt : List UInt8 → Nat
  | [] => 0
  | c :: l => if dig c then cnt l + 1 else 0
theorem cnt_le : ∀ l : List UInt8, cnt l ≤ l.length
  | [] => by simp [cnt]
  | c :: l => by have := cnt_le l; unfold cnt; split <;> simp <;> omega
/-- How many digits stand from k on. -/
def runL (l : List UInt8) (k : Nat) : Nat := cnt (l.drop k)
theorem runL_end {l : List UInt8} {k : Nat} (h : l.length ≤ k) : runL l k = 0 := by unfold runL; rw [List.drop_eq_nil_of_le h]; rfl
theorem runL_yes {l : List UInt8} {k : Nat} (h : k < l.length) (hd : dig l[k] = true) : runL l k = runL l (k + 1) + 1 := by
  unfold runL; rw [List.drop_eq_getElem_cons h]; simp [cnt, hd]
theorem runL_no {l : List UInt8} {k : Nat} (h : k < l.length) (hd : dig l[k] = false) : runL l k = 0 := by
  unfold runL; rw [List.drop_eq_getElem_cons h]; simp [cnt, hd]
theorem runL_le (l : List UInt8) (k : Nat) (h : k ≤ l.length) : k + runL l k ≤ l.length := by
  have := cnt_le (l.drop k); rw [List.length_drop] at this; unfold runL; omega
theorem runL_pos {l : List UInt8} {k : Nat} (h : 0 < runL l k) : k < l.length := by
  rcases Nat.lt_or_ge k l.length with h1 | h1
  · exact h1
  · rw [runL_end h1] at h; omega
/-- Digits from k on: the j-th is one as long as j is less than the run. -/
theorem runL_at {l : List UInt8} : ∀ {j k : Nat}, j < runL l k → ∃ h : k + j < l.length, dig l[k + j] = true := by
  intro j
  induction j with
  | zero =>
    intro k hj
    have hk := runL_pos hj
    refine ⟨hk, ?_⟩
    show dig l[k] = true
    rcases hd : dig l[k] with _ | _
    · rw [runL_no hk hd] at hj; omega
    · rfl
  | succ j ih =>
    intro k hj
    have hk : k < l.length := runL_pos (by omega)
    rcases hd : dig l[k] with _ | _
    · rw [runL_no hk hd] at hj; omega
    · rw [runL_yes hk hd] at hj
      obtain ⟨h1, h2⟩ := ih (k := k + 1) (by omega)
      refine ⟨by omega, ?_⟩
      have e : k + (j + 1) = k + 1 + j := by omega
      simp only [e]
      exact h2
theorem runL_stop {l : List UInt8} {k : Nat} (h : k + runL l k < l.length) : dig l[k + runL l k] = false := by
  have e : ∀ m k, runL l k = m → ∀ h : k + m < l.length, dig l[k + m] = false := by
    intro m
    induction m with
    | zero =>
      intro k hm h
      show dig l[k] = false
      rcases hd : dig l[k] with _ | _
      · rfl
      · rw [runL_yes (show k < l.length from h) hd] at hm; omega
    | succ m ih =>
      intro k hm h
      have hk : k < l.length := by omega
      rcases hd : dig l[k] with _ | _
      · rw [runL_no hk hd] at hm; omega
      · rw [runL_yes hk hd] at hm
        have := ih (k + 1) (by omega) (by omega)
        have e : k + (m + 1) = k + 1 + m := by omega
        simp only [e]
        exact this
  exact e _ _ rfl h
/-- The number of so many bytes. -/
def numF (l : List UInt8) (k : Nat) : Nat → Nat
  | 0 => 0
  | n + 1 => 10 * numF l k n + ((l.getD (k + n) 0).toNat - 48)
theorem numF_lt {l : List UInt8} {k : Nat} : ∀ {n : Nat}, n ≤ runL l k → numF l k n < 10 ^ n := by
  intro n
  induction n with
  | zero => intro _; simp [numF]
  | succ n ih =>
    intro h
    have h1 := ih (by omega)
    obtain ⟨hk, hd⟩ := runL_at (l := l) (j := n) (k := k) (by omega)
    rw [dig_iff] at hd
    have e : l.getD (k + n) 0 = l[k + n] := by rw [List.getD, List.getElem?_eq_getElem hk]; rfl
    unfold numF
    rw [e, Nat.pow_succ]
    omega
/-- Where c stands first in us from the place nx on. -/
def idx (us : List UInt8) (c : UInt8) : Nat → Option Nat
  | n => (us.drop n).findIdx? (· == c)
/-- What numbers with units are worth: the place, the values, was there one, what is wrong. -/
def upd (v : Nat → Int) (j : Nat) (n : Int) : Nat → Int := fun i => if i = j then n else v i
theorem upd_same (v : Nat → Int) (j : Nat) (n : Int) : upd v j n j = n := if_pos rfl
theorem upd_other (v : Nat → Int) {i j : Nat} (n : Int) (h : i ≠ j) : upd v j n i = v i := if_neg h
structure Ures where
  at_ : Nat
  val : Nat → Int
  some_ : Bool
  err : Int
def unitsF (l us : List UInt8) : Nat → Nat → Nat → (Nat → Int) → Bool → Ures
  | 0, _, k, v, b => ⟨k, v, b, 0⟩
  | f + 1, nx, k, v, b =>
    if runL l k = 0 then ⟨k, v, b, 0⟩
    else if 8 < runL l k then ⟨k, v, b, 6⟩
    else if h : k + runL l k < l.length then
      match (us.drop nx).findIdx? (· == l[k + runL l k]) with
      | none => ⟨k + runL l k, v, b, 5⟩
      | some i => unitsF l us f (nx + i + 1) (k + runL l k + 1) (upd v (nx + i) (numF l k (runL l k) : Nat)) true
    else ⟨k + runL l k, v, b, 5⟩
theorem unitsF_none {l us : List UInt8} {f nx k : Nat} {v : Nat → Int} {b : Bool} (h : runL l k = 0) : unitsF l us (f + 1) nx k v b = ⟨k, v, b, 0⟩ := by
  unfold unitsF; rw [if_pos h]
theorem unitsF_many {l us : List UInt8} {f nx k : Nat} {v : Nat → Int} {b : Bool} (h : 8 < runL l k) : unitsF l us (f + 1) nx k v b = ⟨k, v, b, 6⟩ := by
  unfold unitsF; rw [if_neg (by omega), if_pos h]
theorem unitsF_end {l us : List UInt8} {f nx k : Nat} {v : Nat → Int} {b : Bool} (h : 0 < runL l k) (h8 : runL l k ≤ 8) (he : l.length ≤ k + runL l k) : unitsF l us (f + 1) nx k v b = ⟨k + runL l k, v, b, 5⟩ := by
  unfold unitsF; rw [if_neg (by omega), if_neg (by omega), dif_neg (by omega)]
theorem unitsF_bad {l us : List UInt8} {f nx k : Nat} {v : Nat → Int} {b : Bool} (h : 0 < runL l k) (h8 : runL l k ≤ 8) (he : k + runL l k < l.length) (hf : (us.drop nx).findIdx? (· == l[k + runL l k]) = none) :
    unitsF l us (f + 1) nx k v b = ⟨k + runL l k, v, b, 5⟩ := by
  unfold unitsF; rw [if_neg (by omega), if_neg (by omega), dif_pos he, hf]
theorem unitsF_next {l us : List UInt8} {f nx k i : Nat} {v : Nat → Int} {b : Bool} (h : 0 < runL l k) (h8 : runL l k ≤ 8) (he : k + runL l k < l.length) (hf : (us.drop nx).findIdx? (· == l[k + runL l k]) = some i) :
    unitsF l us (f + 1) nx k v b = unitsF l us f (nx + i + 1) (k + runL l k + 1) (upd v (nx + i) (numF l k (runL l k) : Nat)) true := by
  conv => lhs; unfold unitsF
  rw [if_neg (by omega), if_neg (by omega), dif_pos he, hf]
/-- A period's number with its unit, if there is one. -/
structure Per where
  err : Int
  place : Int
  v : Nat → Int
def zero : Nat → Int := fun _ => 0
def sgn (l : List UInt8) : Int := if l[0]? = some 45 then -1 else 1
def sg0 (l : List UInt8) : Nat := if l[0]? = some 45 then 1 else 0
/-- The end of the reading. -/
def perZ (l : List UInt8) (v t : Nat → Int) (b : Bool) (k : Nat) : Per :=
  if b = true ∧ l.length ≤ k then ⟨0, -1, fun i => match i with | 0 => sgn l * v 0 | 1 => sgn l * v 1 | 2 => sgn l * v 2 | 3 => sgn l * v 3 | _ => sgn l * ((t 0 * 60 + t 1) * 60 + t 2)⟩
  else ⟨5, k, zero⟩
def ymwd : List UInt8 := [89, 77, 87, 68]
def hms : List UInt8 := [72, 77, 83]
def perT (l : List UInt8) (u : Ures) : Per :=
  if u.err = 0 then
    if l[u.at_]? = some 84 then
      let x := unitsF l hms 4 0 (u.at_ + 1) zero false
      if x.err = 0 then perZ l u.val x.val x.some_ x.at_ else ⟨x.err, x.at_, zero⟩
    else perZ l u.val zero u.some_ u.at_
  else ⟨u.err, u.at_, zero⟩
def perF (l : List UInt8) : Per :=
  if l[sg0 l]? = some 80 then perT l (unitsF l ymwd 5 0 (sg0 l + 1) zero false) else ⟨5, sg0 l, zero⟩
end Scm
