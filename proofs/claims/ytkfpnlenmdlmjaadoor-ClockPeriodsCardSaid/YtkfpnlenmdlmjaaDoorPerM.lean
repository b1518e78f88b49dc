/- Plain: periods as texts (no program in sight). -/
import Derived.Lib.ItoaLen
namespace Per
open Go
/-- The five numbers of a period. -/
abbrev F := Nat → Int
def five (a b c d e : Int) : F := fun i => match i with | 0 => a | 1 => b | 2 => c | 3 => d | _ => e
def bigB (v : F) (k : Nat) : Bool := (List.range k).any fun i => decide (v i < -1000000000000) || decide (1000000000000 < v i)
def upB (v : F) (k : Nat) : Bool := (List.range k).any fun i => decide (0 < v i)
def dnB (v : F) (k : Nat) : Bool := (List.range k).any fun i => decide (v i < 0)
theorem upB_succ (v : F) (k : Nat) : upB v (k + 1) = (upB v k || decide (0 < v k)) := by simp [upB, List.range_succ]
theorem dnB_succ (v : F) (k : Nat) : dnB v (k + 1) = (dnB v k || decide (v k < 0)) := by simp [dnB, List.range_succ]
theorem bigB_succ (v : F) (k : Nat) : bigB v (k + 1) = (bigB v k || (decide (v k < -1000000000000) || decide (1000000000000 < v k))) := by simp [bigB, List.range_succ]
theorem bigB_of {v : F} {k n : Nat} (h : k < n) (hb : v k < -1000000000000 ∨ 1000000000000 < v k) : bigB v n = true := by
  unfold bigB; rw [List.any_eq_true]; exact ⟨k, List.mem_range.2 h, by simpa using hb⟩
theorem bigB_no {v : F} {n : Nat} (h : bigB v n = false) {k : Nat} (hk : k < n) : -1000000000000 ≤ v k ∧ v k ≤ 1000000000000 := by
  unfold bigB at h; rw [List.any_eq_false] at h
  have := h k (List.mem_range.2 hk)
  simp at this; omega
theorem upB_of {v : F} {k n : Nat} (h : k < n) (hb : 0 < v k) : upB v n = true := by
  unfold upB; rw [List.any_eq_true]; exact ⟨k, List.mem_range.2 h, by simpa using hb⟩
theorem upB_no {v : F} {n : Nat} (h : upB v n = false) {k : Nat} (hk : k < n) : v k ≤ 0 := by
  unfold upB at h; rw [List.any_eq_false] at h
  have := h k (List.mem_range.2 hk)
  simp at this; omega
theorem dnB_of {v : F} {k n : Nat} (h : k < n) (hb : v k < 0) : dnB v n = true := by
  unfold dnB; rw [List.any_eq_true]; exact ⟨k, List.mem_range.2 h, by simpa using hb⟩
theorem dnB_no {v : F} {n : Nat} (h : dnB v n = false) {k : Nat} (hk : k < n) : 0 ≤ v k := by
  unfold dnB at h; rw [List.any_eq_false] at h
  have := h k (List.mem_range.2 hk)
  simp at this; omega
/-- A number with its unit, if it is more than none. -/
def partL (n : Int) (u : UInt8) : List UInt8 := if 0 < n then Lib.itoa n ++ [u] else []
theorem partL_yes {n : Int} {u : UInt8} (h : 0 < n) : partL n u = Lib.itoa n ++ [u] := if_pos h
theorem partL_no {n : Int} {u : UInt8} (h : ¬ 0 < n) : partL n u = [] := if_neg h
theorem partL_len {n : Int} {u : UInt8} (h : n ≤ 9223372036854775807) : (partL n u).length ≤ 22 := by
  unfold partL
  split
  · have := Lib.itoa_length_le n (by omega) h
    rw [List.length_append]; simp; omega
  · simp
def tailL (s : Int) : List UInt8 := if 0 < s then [84] ++ partL (s / 3600) 72 ++ partL (s / 60 % 60) 77 ++ partL (s % 60) 83 else []
def headL (v : F) : List UInt8 := [80] ++ partL (v 0) 89 ++ partL (v 1) 77 ++ partL (v 2) 87 ++ partL (v 3) 68
def neg (v : F) : F := fun i => - v i
def textE (v : F) : Int := if bigB v 5 = true then 4 else if upB v 5 = true ∧ dnB v 5 = true then 1 else 0
def textS (v : F) : List UInt8 :=
  if dnB v 5 = true then [45] ++ headL (neg v) ++ tailL (- v 4) else if upB v 5 = true then headL v ++ tailL (v 4) else [80, 84, 48, 83]
def textL (v : F) : List UInt8 := if textE v = 0 then textS v else []
theorem textE_big {v : F} (h : bigB v 5 = true) : textE v = 4 ∧ textL v = [] := by have e : textE v = 4 := if_pos h; exact ⟨e, if_neg (by rw [e]; decide)⟩
theorem textE_un {v : F} (h : bigB v 5 = false) (h1 : upB v 5 = true) (h2 : dnB v 5 = true) : textE v = 1 ∧ textL v = [] := by
  have e : textE v = 1 := by unfold textE; rw [if_neg (by simp [h]), if_pos ⟨h1, h2⟩]
  exact ⟨e, if_neg (by rw [e]; decide)⟩
theorem textE_ok {v : F} (h : bigB v 5 = false) (h1 : ¬ (upB v 5 = true ∧ dnB v 5 = true)) : textE v = 0 ∧ textL v = textS v := by
  have e : textE v = 0 := by unfold textE; rw [if_neg (by simp [h]), if_neg h1]
  exact ⟨e, if_pos e⟩
theorem textS_dn {v : F} (h : dnB v 5 = true) : textS v = [45] ++ headL (neg v) ++ tailL (- v 4) := if_pos h
theorem textS_up {v : F} (h : dnB v 5 = false) (h1 : upB v 5 = true) : textS v = headL v ++ tailL (v 4) := by unfold textS; rw [if_neg (by simp [h]), if_pos h1]
theorem textS_zero {v : F} (h : dnB v 5 = false) (h1 : upB v 5 = false) : textS v = [80, 84, 48, 83] := by unfold textS; rw [if_neg (by simp [h]), if_neg (by simp [h1])]
theorem tailL_no {s : Int} (h : ¬ 0 < s) : tailL s = [] := if_neg h
theorem tailL_yes {s : Int} (h : 0 < s) : tailL s = [84] ++ partL (s / 3600) 72 ++ partL (s / 60 % 60) 77 ++ partL (s % 60) 83 := if_pos h
end Per
