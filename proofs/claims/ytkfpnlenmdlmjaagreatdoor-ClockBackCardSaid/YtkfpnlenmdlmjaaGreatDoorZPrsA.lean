/- Plain: what a stamp's text says, part by part (over the places of Scp, Scq); the errors of the program's parts. -/
import Derived.Test.YtkfpnlenmdlmjaaGreatDoorZScq
import Derived.Test.YtkfpnlenmdlmjaaGreatDoorZG6
import Derived.Test.YtkfpnlenmdlmjaaGreatDoorZG5
namespace Go.Proofs.YtkfpnlenmdlmjaaGreatDoor
open Go.RowKit Scm
/-- A day that was read: the day, is it wide, the error, its place (-1: none), where the text goes on. -/
structure DayP where
  day : Int
  wide : Bool
  err : Int
  place : Int
  at_ : Nat
def badD (wd : Bool) (k : Nat) : DayP := ⟨0, wd, 5, k, k⟩
/-- The year: is it one, its number, where it ends. -/
def yrN (s : ByteArray) (k : Nat) : Nat := if isB s k 45 = true then 5 else if isB s k 43 = true then 5 else 4
def yrK (s : ByteArray) (k : Nat) : Nat := if isB s k 45 = true then k + 1 else if isB s k 43 = true then k + 1 else k
def yrS (s : ByteArray) (k : Nat) : Int := if isB s k 45 = true then -1 else 1
def yrB (s : ByteArray) (k : Nat) : Bool := dgB s (yrK s k) (yrN s k)
def yrY (s : ByteArray) (k : Nat) : Int := yrS s k * (dgN s (yrK s k) (yrN s k) : Nat)
def yrE (s : ByteArray) (k : Nat) : Nat := dgK s (yrK s k) (yrN s k)
theorem yr_minus {s : ByteArray} {k : Nat} (h : isB s k 45 = true) : yrN s k = 5 ∧ yrK s k = k + 1 ∧ yrS s k = -1 := ⟨if_pos h, if_pos h, if_pos h⟩
theorem yr_plus {s : ByteArray} {k : Nat} (h : isB s k 45 = false) (h2 : isB s k 43 = true) : yrN s k = 5 ∧ yrK s k = k + 1 ∧ yrS s k = 1 := by
  unfold yrN yrK yrS; simp [h, h2]
theorem yr_none {s : ByteArray} {k : Nat} (h : isB s k 45 = false) (h2 : isB s k 43 = false) : yrN s k = 4 ∧ yrK s k = k ∧ yrS s k = 1 := by
  unfold yrN yrK yrS; simp [h, h2]
theorem yrK_le {s : ByteArray} {k : Nat} (h : k ≤ s.size) : yrK s k ≤ s.size := by
  unfold yrK
  split
  · exact isB_lt ‹_›
  · split
    · exact isB_lt ‹_›
    · exact h
theorem yrE_le {s : ByteArray} {k : Nat} (h : k ≤ s.size) : yrE s k ≤ s.size := dgK_le (yrK_le h)
theorem yrN_le (s : ByteArray) (k : Nat) : yrN s k ≤ 5 := by unfold yrN; split <;> (try split) <;> omega
theorem yrY_bd (s : ByteArray) (k : Nat) : -100000 < yrY s k ∧ yrY s k < 100000 := by
  have h1 := dgN_lt s (yrK s k) (yrN s k)
  have h2 : 10 ^ yrN s k ≤ 10 ^ 5 := Nat.pow_le_pow_right (by omega) (yrN_le s k)
  simp at h2
  unfold yrY yrS
  split <;> omega
/-- A day of a week, as days.OfWeek tells it. -/
def owE (y k d : Int) : Int := if yearE 1 y ≠ 0 then yearE 1 y else if k < 1 ∨ weeksR y < k ∨ d < 1 ∨ 7 < d then 3 else rangeE (owN y k d)
def owR (y k d : Int) : Int := if yearE 1 y ≠ 0 then 0 else if k < 1 ∨ weeksR y < k ∨ d < 1 ∨ 7 < d then 0 else rangeR (owN y k d)
theorem OwR.is {y k d r e : Int} (h : OwR y k d r e) : r = owR y k d ∧ e = owE y k d := by
  unfold owR owE
  rcases h with ⟨h1, h2, h3⟩ | ⟨h1, h2, h3, h4⟩ | ⟨h1, h2, h3, h4⟩
  · rw [if_pos h1, if_pos h1]; exact ⟨h2, h3⟩
  · have hA : ¬ yearE 1 y ≠ 0 := fun h => h h1
    have hB : k < 1 ∨ weeksR y < k ∨ d < 1 ∨ 7 < d := h2
    exact ⟨by rw [if_neg hA, if_pos hB]; exact h3, by rw [if_neg hA, if_pos hB]; exact h4⟩
  · have hA : ¬ yearE 1 y ≠ 0 := fun h => h h1
    have hB : ¬ (k < 1 ∨ weeksR y < k ∨ d < 1 ∨ 7 < d) := h2
    exact ⟨by rw [if_neg hA, if_neg hB]; exact h3, by rw [if_neg hA, if_neg hB]; exact h4⟩
/-- The n-th day of a year. -/
def ordE (y n : Int) : Int := if dayE 1 y 1 1 ≠ 0 then dayE 1 y 1 1 else if n < 1 ∨ 366 < n ∨ n = 366 ∧ leapR 1 y = false then 3 else 0
def ordR (y n : Int) : Int := if ordE y n = 0 then dayR 1 y 1 1 + n - 1 else 0
/-- What the program's error is: none, one without a place, one with its place. -/
def ErrIs (B : Nat) (x pl : Int) (v : Value) (w : World) : Prop := (x = 0 ∧ pl = -1 ∧ v = .nilIface) ∨ (x ≠ 0 ∧ pl = -1 ∧ v = .iface 25 (.int .i64 x)) ∨ (x ≠ 0 ∧ 0 ≤ pl ∧ AtBox B x pl v w)
theorem ErrIs.call {B : Nat} {x pl : Int} {v : Value} {w w' : World} (h : ErrIs B x pl v w) (hb : Below w.heap.size w w') : ErrIs B x pl v w' := by
  rcases h with h | h | ⟨h1, h3, h2⟩
  · exact .inl h
  · exact .inr (.inl h)
  · exact .inr (.inr ⟨h1, h3, h2.call hb⟩)
theorem ErrIs.mono {B C : Nat} {x pl : Int} {v : Value} {w : World} (h : ErrIs B x pl v w) (hC : C ≤ B) : ErrIs C x pl v w := by
  rcases h with h | h | ⟨h1, h3, h2⟩
  · exact .inl h
  · exact .inr (.inl h)
  · exact .inr (.inr ⟨h1, h3, h2.mono hC⟩)
theorem ErrIs.ofE {B : Nat} {x : Int} {w : World} : ErrIs B x (-1) (errV x) w := by
  by_cases h : x = 0
  · subst h; exact .inl ⟨rfl, rfl, rfl⟩
  · exact .inr (.inl ⟨h, rfl, errV_hit h⟩)
def wkP (s : ByteArray) (y : Int) (wd : Bool) (k : Nat) : DayP :=
  if dgB s k 2 = true then
    if wd = true ∧ isB s (dgK s k 2) 45 = false then badD wd (dgK s k 2)
    else if dgB s (if wd = true then dgK s k 2 + 1 else dgK s k 2) 1 = true then
      ⟨owR y (dgN s k 2 : Nat) (dgN s (if wd = true then dgK s k 2 + 1 else dgK s k 2) 1 : Nat), wd, owE y (dgN s k 2 : Nat) (dgN s (if wd = true then dgK s k 2 + 1 else dgK s k 2) 1 : Nat), -1, dgK s (if wd = true then dgK s k 2 + 1 else dgK s k 2) 1⟩
    else badD wd (dgK s (if wd = true then dgK s k 2 + 1 else dgK s k 2) 1)
  else badD wd (dgK s k 2)
def mdP (s : ByteArray) (y : Int) (wd : Bool) (k : Nat) : DayP :=
  if dgB s k 2 = true then
    if wd = true ∧ isB s (dgK s k 2) 45 = false then badD wd (dgK s k 2)
    else if dgB s (if wd = true then dgK s k 2 + 1 else dgK s k 2) 2 = true then
      ⟨dayR 1 y (dgN s k 2 : Nat) (dgN s (if wd = true then dgK s k 2 + 1 else dgK s k 2) 2 : Nat), wd, dayE 1 y (dgN s k 2 : Nat) (dgN s (if wd = true then dgK s k 2 + 1 else dgK s k 2) 2 : Nat), -1, dgK s (if wd = true then dgK s k 2 + 1 else dgK s k 2) 2⟩
    else badD wd (dgK s (if wd = true then dgK s k 2 + 1 else dgK s k 2) 2)
  else badD wd (dgK s k 2)
def ordP (s : ByteArray) (y : Int) (wd : Bool) (k : Nat) : DayP := ⟨ordR y (num_ s k 3 : Nat), wd, ordE y (num_ s k 3 : Nat), -1, k + 3⟩
def dayA (s : ByteArray) (y : Int) (wd : Bool) (k : Nat) : DayP := if isB s k 87 = true then wkP s y wd (k + 1) else if run_ s k = 3 then ordP s y wd k else mdP s y wd k
def dayP (s : ByteArray) (k : Nat) : DayP := if yrB s k = true then dayA s (yrY s k) (isB s (yrE s k) 45) (isK s (yrE s k) 45) else badD false (yrE s k)
/-- What a part with an error answers. -/
def YrPost (b : Nat) (s : ByteArray) (k : Nat) (w : World) (e : Ending) (w' : World) : Prop :=
  ∃ v, e = .returned (.tuple #[.int .i64 (if yrB s k = true then yrY s k else 0), v]) ∧ ErrIs w.heap.size (if yrB s k = true then 0 else 5) (if yrB s k = true then -1 else (yrE s k : Nat)) v w' ∧ ScanAt b s (yrE s k : Nat) w' ∧ Only b w w'
end Go.Proofs.YtkfpnlenmdlmjaaGreatDoor
