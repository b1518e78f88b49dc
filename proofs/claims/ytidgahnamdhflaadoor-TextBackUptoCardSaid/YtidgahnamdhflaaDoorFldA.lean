/- Plain lists of bytes: lines folded and unfolded; no program in sight. -/
import Derived.WalkKit
import Derived.Lib.Strings
import Derived.Lib.Bytealg
namespace Go.Proofs.YtidgahnamdhflaaDoor.Fld
/-- A byte that begins a character. -/
def stB (b : UInt8) : Bool := !(128 ≤ b.toNat && b.toNat ≤ 191)
/-- Where a text of more than m bytes is cut, looked at from k bytes ahead of m. -/
def cutFrom (l : List UInt8) (m k : Nat) : Nat := if h : 4 ≤ k then m else if stB (l.getD (m - k) 0) then m - k else cutFrom l m (k + 1)
  termination_by 4 - k
def cutN (l : List UInt8) (m : Nat) : Nat := if l.length ≤ m then l.length else cutFrom l m 0
theorem cutFrom_end (l : List UInt8) (m k : Nat) (h : 4 ≤ k) : cutFrom l m k = m := by rw [cutFrom]; simp [h]
theorem cutFrom_hit (l : List UInt8) (m k : Nat) (h : k < 4) (hs : stB (l.getD (m - k) 0) = true) : cutFrom l m k = m - k := by
  rw [cutFrom, dif_neg (by omega), if_pos hs]
theorem cutFrom_miss (l : List UInt8) (m k : Nat) (h : k < 4) (hs : stB (l.getD (m - k) 0) = false) : cutFrom l m k = cutFrom l m (k + 1) := by
  rw [cutFrom, dif_neg (by omega), hs]; rfl
theorem cutFrom_bd (l : List UInt8) (m k : Nat) : m - 3 ≤ cutFrom l m k ∧ cutFrom l m k ≤ m := by
  by_cases h : 4 ≤ k
  · rw [cutFrom_end l m k h]; omega
  · rcases hs : stB (l.getD (m - k) 0) with _ | _
    · rw [cutFrom_miss l m k (by omega) hs]; exact cutFrom_bd l m (k + 1)
    · rw [cutFrom_hit l m k (by omega) hs]; omega
  termination_by 4 - k
theorem cutN_bd (l : List UInt8) (m : Nat) (hm : 4 ≤ m) : cutN l m ≤ l.length ∧ cutN l m ≤ m ∧ (l ≠ [] → 1 ≤ cutN l m) := by
  unfold cutN
  have h1 := cutFrom_bd l m 0
  split
  · rename_i h
    refine ⟨Nat.le_refl _, h, fun h0 => ?_⟩
    have := List.length_pos_iff.2 h0
    omega
  · rename_i h
    exact ⟨by omega, by omega, fun _ => by omega⟩
/-- The lines that go on. -/
def foldT (l : List UInt8) : List UInt8 := if h : l = [] then [] else 32 :: (l.take (cutN l 74) ++ ([13, 10] ++ foldT (l.drop (cutN l 74))))
  termination_by l.length
  decreasing_by
    have := (cutN_bd l 74 (by omega)).2.2 h
    have := List.length_pos_iff.2 h
    simp; omega
def foldL (l : List UInt8) : List UInt8 := l.take (cutN l 75) ++ ([13, 10] ++ foldT (l.drop (cutN l 75)))
theorem foldT_nil : foldT [] = [] := by rw [foldT]; simp
theorem foldT_cons (l : List UInt8) (h : l ≠ []) : foldT l = 32 :: (l.take (cutN l 74) ++ ([13, 10] ++ foldT (l.drop (cutN l 74)))) := by rw [foldT, dif_neg h]
theorem foldT_len (l : List UInt8) : (foldT l).length ≤ 4 * l.length := by
  by_cases h : l = []
  · subst h; simp [foldT_nil]
  · have h1 := (cutN_bd l 74 (by omega))
    have h2 := h1.2.2 h
    have h3 := List.length_pos_iff.2 h
    have ih := foldT_len (l.drop (cutN l 74))
    rw [foldT_cons l h]
    simp at ih ⊢
    omega
  termination_by l.length
  decreasing_by simp; omega
theorem foldL_len (l : List UInt8) : (foldL l).length ≤ 4 * l.length + 2 := by
  have h1 := (cutN_bd l 75 (by omega))
  have ih := foldT_len (l.drop (cutN l 75))
  unfold foldL
  simp at ih ⊢
  omega
/-! ### Texts cut at a byte -/
def splitC (c : UInt8) : List UInt8 → List (List UInt8)
  | [] => [[]]
  | b :: t => if b = c then [] :: splitC c t else match splitC c t with | [] => [[b]] | h :: r => (b :: h) :: r
theorem splitC_ne (c : UInt8) (l : List UInt8) : splitC c l ≠ [] := by
  cases l with
  | nil => simp [splitC]
  | cons b t =>
    unfold splitC
    split
    · simp
    · split <;> simp
theorem splitC_none (c : UInt8) (l : List UInt8) (h : c ∉ l) : splitC c l = [l] := by
  induction l with
  | nil => rfl
  | cons b t ih =>
    simp at h
    unfold splitC
    rw [if_neg (fun e => h.1 e.symm), ih h.2]
theorem splitC_hit (c : UInt8) (p t : List UInt8) (h : c ∉ p) : splitC c (p ++ c :: t) = p :: splitC c t := by
  induction p with
  | nil => simp [splitC]
  | cons b p ih =>
    simp at h
    rw [List.cons_append]
    have e : splitC c (b :: (p ++ c :: t)) = match splitC c (p ++ c :: t) with | [] => [[b]] | h :: r => (b :: h) :: r := by
      conv => lhs; unfold splitC
      rw [if_neg (fun e => h.1 e.symm)]
    rw [e, ih h.2]
/-- .. without a last one that is empty. -/
def linesOf (l : List UInt8) : List (List UInt8) := if (splitC 10 l).getLast (splitC_ne 10 l) = [] then (splitC 10 l).dropLast else splitC 10 l
theorem linesOf_nil : linesOf [] = [] := by simp [linesOf, splitC]
theorem linesOf_one (l : List UInt8) (h0 : l ≠ []) (h : 10 ∉ l) : linesOf l = [l] := by
  have h1 := splitC_none 10 l h
  unfold linesOf
  simp [h1, h0]
theorem linesOf_cut (p t : List UInt8) (h : 10 ∉ p) : linesOf (p ++ 10 :: t) = p :: linesOf t := by
  have h1 := splitC_hit 10 p t h
  have h2 := splitC_ne 10 t
  unfold linesOf
  simp only [h1, List.getLast_cons h2]
  split
  · rw [List.dropLast_cons_of_ne_nil h2]
  · rfl
theorem splitC_flat (c : UInt8) (l : List UInt8) : (splitC c l).flatten.length ≤ l.length ∧ (splitC c l).length ≤ l.length + 1 := by
  induction l with
  | nil => simp [splitC]
  | cons b t ih =>
    unfold splitC
    split
    · simp at ih ⊢; omega
    · split
      · simp
      · rename_i h r e
        rw [e] at ih
        simp at ih ⊢; omega
theorem dropLast_flat {α : Type} (l : List (List α)) : l.dropLast.flatten.length ≤ l.flatten.length := by
  induction l with
  | nil => simp
  | cons a l ih =>
    cases l with
    | nil => simp
    | cons b l => simp at ih ⊢; omega
theorem linesOf_flat (l : List UInt8) : (linesOf l).flatten.length ≤ l.length ∧ (linesOf l).length ≤ l.length + 1 := by
  have h := splitC_flat 10 l
  unfold linesOf
  split
  · have := dropLast_flat (splitC 10 l)
    simp at this h ⊢
    omega
  · exact h
/-- A line without its return. -/
def trimR (l : List UInt8) : List UInt8 := if l.getLast? = some 13 then l.dropLast else l
theorem trimR_len (l : List UInt8) : (trimR l).length ≤ l.length := by
  unfold trimR
  split <;> simp
/-- Whether a line goes on with the one ahead. -/
def goes (y : List UInt8) : Bool := match y with | [] => false | b :: _ => b == 32 || b == 9
def stepU (acc : List (List UInt8)) (x : List UInt8) : List (List UInt8) :=
  if goes (trimR x) && !acc.isEmpty then acc.dropLast ++ [acc.getLastD [] ++ (trimR x).tail] else acc ++ [trimR x]
def unfL (l : List UInt8) : List (List UInt8) := (linesOf l).foldl stepU []
theorem flat_last {α : Type} (l : List (List α)) (h : l ≠ []) : l.flatten.length = l.dropLast.flatten.length + (l.getLastD []).length := by
  have e := List.dropLast_concat_getLast h
  have e2 : l.getLastD [] = l.getLast h := by cases l with | nil => exact absurd rfl h | cons a l => simp [List.getLastD]
  rw [e2]
  conv => lhs; rw [← e]
  simp
theorem stepU_flat (acc : List (List UInt8)) (x : List UInt8) : (stepU acc x).flatten.length ≤ acc.flatten.length + x.length ∧ (stepU acc x).length ≤ acc.length + 1 := by
  have h1 := trimR_len x
  unfold stepU
  split
  · rename_i h
    simp at h
    have h2 := flat_last acc (by simpa using h.2)
    simp at h2 ⊢
    omega
  · simp
    omega
end Go.Proofs.YtidgahnamdhflaaDoor.Fld
