/- plain: spans as texts: bounds of periods and times; the relation of a span's text and what is answered. -/
import Derived.Test.YtkfpnlenmdlmjaaGreatDoorZSpnA
import Derived.Test.YtkfpnlenmdlmjaaGreatDoorZPerF
import Derived.Test.YtkfpnlenmdlmjaaGreatDoorZG11
namespace Go.Proofs.YtkfpnlenmdlmjaaGreatDoor
open Go.RowKit Scm Go.Shelf
theorem zero_bd : ∀ j, 0 ≤ zero j ∧ zero j < 100000000 := fun _ => by simp [zero]
theorem sgn_or (l : List UInt8) : sgn l = 1 ∨ sgn l = -1 := by unfold sgn; split <;> simp
theorem perZ_bd {l : List UInt8} {v t : Nat → Int} {b : Bool} {k : Nat} (hv : ∀ j, 0 ≤ v j ∧ v j < 100000000) (ht : ∀ j, 0 ≤ t j ∧ t j < 100000000) : ∀ j, -1000000000000 ≤ (perZ l v t b k).v j ∧ (perZ l v t b k).v j ≤ 1000000000000 := by
  intro j
  have h0 := hv 0; have h1 := hv 1; have h2 := hv 2; have h3 := hv 3
  have g0 := ht 0; have g1 := ht 1; have g2 := ht 2
  unfold perZ
  split
  · rcases sgn_or l with e | e <;> rw [e] <;> dsimp only <;> split <;> omega
  · simp [zero]
theorem perF_bd (l : List UInt8) : ∀ j, -1000000000000 ≤ (perF l).v j ∧ (perF l).v j ≤ 1000000000000 := by
  have hz : ∀ j, -1000000000000 ≤ zero j ∧ zero j ≤ 1000000000000 := fun j => by simp [zero]
  unfold perF perT
  split
  · split
    · split
      · simp only
        split
        · exact perZ_bd (unitsF_bd zero_bd) (unitsF_bd zero_bd)
        · exact hz
      · exact perZ_bd (unitsF_bd zero_bd) zero_bd
    · exact hz
  · exact hz
theorem perZ_pl {l : List UInt8} {v t : Nat → Int} {b : Bool} {k : Nat} : (perZ l v t b k).err ≠ 0 → 0 ≤ (perZ l v t b k).place := by
  unfold perZ
  split
  · exact fun h => absurd rfl h
  · exact fun _ => Int.natCast_nonneg _
theorem perF_pl (l : List UInt8) : (perF l).err ≠ 0 → 0 ≤ (perF l).place := by
  unfold perF perT
  split
  · split
    · split
      · simp only
        split
        · exact perZ_pl
        · exact fun _ => Int.natCast_nonneg _
      · exact perZ_pl
    · exact fun _ => Int.natCast_nonneg _
  · exact fun _ => Int.natCast_nonneg _
theorem endP_loc {d sc zk zo : Int} {n k : Nat} : -345600000000 ≤ (endP d sc zk zo n k).loc ∧ (endP d sc zk zo n k).loc ≤ 345600086399 := by
  have key : ∀ d s : Int, joinE d s = 0 → -345600000000 ≤ joinR d s ∧ joinR d s ≤ 345600086399 := by
    intro d s h
    obtain ⟨e, h1, h2⟩ := joinR_good h
    rw [e]
    unfold joinE at h
    split at h
    · exact absurd h (by decide)
    · omega
  unfold endP
  split
  · exact ⟨by show (-345600000000 : Int) ≤ 0; decide, by show (0 : Int) ≤ 345600086399; decide⟩
  · generalize (if sc = 86400 then d + 1 else d) = D
    generalize (if sc = 86400 then 0 else sc) = S
    split
    · exact key _ _ ‹_›
    · exact ⟨by show (-345600000000 : Int) ≤ 0; decide, by show (0 : Int) ≤ 345600086399; decide⟩
theorem parP_loc (s : ByteArray) : -345600000000 ≤ (parP s).loc ∧ (parP s).loc ≤ 345600086399 := by
  unfold parP parD parC
  repeat (first | exact endP_loc | exact ⟨by show (-345600000000 : Int) ≤ 0; decide, by show (0 : Int) ≤ 345600086399; decide⟩ | split)
theorem ptP_loc (s : ByteArray) : -345600000000 ≤ (ptP s).loc ∧ (ptP s).loc ≤ 345600086399 := by
  unfold ptP
  repeat (first | exact parP_loc s | exact ⟨by show (-345600000000 : Int) ≤ 0; decide, by show (0 : Int) ≤ 345600086399; decide⟩ | split)
theorem ptP_place (s : ByteArray) : (ptP s).err = 0 → (ptP s).place = -1 := by
  unfold ptP
  repeat (first | exact fun _ => rfl | exact fun h => absurd h five_ne | exact fun h => absurd h ‹_› | split)
/-- A span that was read. -/
structure SpP where
  from_ : Int
  to_ : Int
  err : Int
  place : Int
def endS (f t x : Int) : SpP := if x ≠ 0 then ⟨0, 0, x, -1⟩ else if t < f then ⟨0, 0, 7, -1⟩ else ⟨f, t, 0, -1⟩
theorem endS_err {f t x : Int} (h : x ≠ 0) : endS f t x = ⟨0, 0, x, -1⟩ := if_pos h
theorem endS_order {f t : Int} (h : t < f) : endS f t 0 = ⟨0, 0, 7, -1⟩ := by unfold endS; rw [if_neg (by decide), if_pos h]
theorem endS_ok {f t : Int} (h : ¬ t < f) : endS f t 0 = ⟨f, t, 0, -1⟩ := by unfold endS; rw [if_neg (by decide), if_neg h]
def hasP (a : ByteArray) : Bool := isB a 0 80
def CutAt (s : ByteArray) (k : Nat) : Prop := s.data.toList[k]? = some 47 ∧ ∀ j, j < k → s.data.toList[j]? ≠ some 47
theorem CutAt.one {s : ByteArray} {k k' : Nat} (h : CutAt s k) (h' : CutAt s k') : k = k' := by
  rcases Nat.lt_trichotomy k k' with g | g | g
  · exact absurd h.1 (h'.2 k g)
  · exact g
  · exact absurd h'.1 (h.2 k' g)
theorem CutAt.mem {s : ByteArray} {k : Nat} (h : CutAt s k) : (47 : UInt8) ∈ s.data.toList := List.mem_of_getElem? h.1
theorem CutAt.lt {s : ByteArray} {k : Nat} (h : CutAt s k) : k < s.size := by
  have q := (List.getElem?_eq_some_iff.1 h.1).1
  rw [lenT] at q
  exact q
def SpRk (a b : ByteArray) (k : Nat) (P : SpP) : Prop :=
  if hasP a = true then
    if (perF a.data.toList).err ≠ 0 then P = ⟨0, 0, (perF a.data.toList).err, (perF a.data.toList).place⟩
    else if (ptP b).err ≠ 0 then P = ⟨0, 0, (ptP b).err, latE k (ptP b).place⟩
    else ∃ r x, AddR (ptP b).loc (-(perF a.data.toList).v 0) (-(perF a.data.toList).v 1) (-(perF a.data.toList).v 2) (-(perF a.data.toList).v 3) (-(perF a.data.toList).v 4) r x ∧ P = endS r (ptP b).loc x
  else if hasP b = true then
    if (ptP a).err ≠ 0 then P = ⟨0, 0, (ptP a).err, (ptP a).place⟩
    else if (perF b.data.toList).err ≠ 0 then P = ⟨0, 0, (perF b.data.toList).err, latE k (perF b.data.toList).place⟩
    else ∃ r x, AddR (ptP a).loc ((perF b.data.toList).v 0) ((perF b.data.toList).v 1) ((perF b.data.toList).v 2) ((perF b.data.toList).v 3) ((perF b.data.toList).v 4) r x ∧ P = endS (ptP a).loc r x
  else if (ptP a).err ≠ 0 then P = ⟨0, 0, (ptP a).err, (ptP a).place⟩
  else if (ptP b).err ≠ 0 then P = ⟨0, 0, (ptP b).err, latE k (ptP b).place⟩
  else P = endS (ptP a).loc (ptP b).loc 0
theorem SpRk.one {a b : ByteArray} {k : Nat} {P Q : SpP} (h : SpRk a b k P) (g : SpRk a b k Q) : P = Q := by
  unfold SpRk at h g
  split at h
  · rw [if_pos ‹_›] at g
    split at h
    · rw [if_pos ‹_›] at g; exact h.trans g.symm
    · rw [if_neg ‹_›] at g
      split at h
      · rw [if_pos ‹_›] at g; exact h.trans g.symm
      · rw [if_neg ‹_›] at g
        obtain ⟨r, x, h1, rfl⟩ := h
        obtain ⟨r', x', g1, rfl⟩ := g
        obtain ⟨rfl, rfl⟩ := h1.one g1
        rfl
  · rw [if_neg ‹_›] at g
    split at h
    · rw [if_pos ‹_›] at g
      split at h
      · rw [if_pos ‹_›] at g; exact h.trans g.symm
      · rw [if_neg ‹_›] at g
        split at h
        · rw [if_pos ‹_›] at g; exact h.trans g.symm
        · rw [if_neg ‹_›] at g
          obtain ⟨r, x, h1, rfl⟩ := h
          obtain ⟨r', x', g1, rfl⟩ := g
          obtain ⟨rfl, rfl⟩ := h1.one g1
          rfl
    · rw [if_neg ‹_›] at g
      split at h
      · rw [if_pos ‹_›] at g; exact h.trans g.symm
      · rw [if_neg ‹_›] at g
        split at h
        · rw [if_pos ‹_›] at g; exact h.trans g.symm
        · rw [if_neg ‹_›] at g; exact h.trans g.symm
def SpR (s : ByteArray) (P : SpP) : Prop := ((47 : UInt8) ∉ s.data.toList ∧ P = ⟨0, 0, 5, (s.size : Int)⟩) ∨ ∃ k, CutAt s k ∧ SpRk (s.extract 0 k) (s.extract (k + 1) s.size) k P
theorem SpR.one {s : ByteArray} {P Q : SpP} (h : SpR s P) (g : SpR s Q) : P = Q := by
  rcases h with ⟨h1, h2⟩ | ⟨k, h1, h2⟩ <;> rcases g with ⟨g1, g2⟩ | ⟨k', g1, g2⟩
  · exact h2.trans g2.symm
  · exact absurd g1.mem h1
  · exact absurd h1.mem g1
  · obtain rfl := h1.one g1
    exact h2.one g2
end Go.Proofs.YtkfpnlenmdlmjaaGreatDoor
