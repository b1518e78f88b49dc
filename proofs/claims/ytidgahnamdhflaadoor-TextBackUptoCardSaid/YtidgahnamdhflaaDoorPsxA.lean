/- Plain: texts read as parts (no program in sight). -/
import Derived.Test.YtidgahnamdhflaaDoorPrtA
import Derived.Lib.Bytealg
namespace Go.Proofs.YtidgahnamdhflaaDoor.Psx
open Go Go.Proofs.YtidgahnamdhflaaDoor.Fld Go.Proofs.YtidgahnamdhflaaDoor.Prt
def greatC (c : UInt8) : UInt8 := if 97 ≤ c.toNat ∧ c.toNat ≤ 122 then c - 32 else c
def greatL (l : List UInt8) : List UInt8 := l.map greatC
theorem greatL_len (l : List UInt8) : (greatL l).length = l.length := by simp [greatL]
def bs (l : List UInt8) : ByteArray := ⟨l.toArray⟩
theorem bs_list (l : List UInt8) : (bs l).data.toList = l := rfl
theorem bs_size (l : List UInt8) : (bs l).size = l.length := rfl
theorem bs_of (s : ByteArray) : bs s.data.toList = s := rfl
/-- The first of some bytes. -/
def fstOf (l cs : List UInt8) : Option Nat := l.findIdx? (cs.contains ·)
theorem fstOf_nil (cs : List UInt8) : fstOf [] cs = none := rfl
theorem fstOf_cons (b : UInt8) (l cs : List UInt8) : fstOf (b :: l) cs = if cs.contains b then some 0 else (fstOf l cs).map (· + 1) := by
  unfold fstOf; rw [List.findIdx?_cons]
theorem fstOf_lt {l cs : List UInt8} {i : Nat} (h : fstOf l cs = some i) : i < l.length := by
  induction l generalizing i with
  | nil => cases h
  | cons b l ih =>
    rw [fstOf_cons] at h
    split at h
    · cases h; simp
    · cases h2 : fstOf l cs with
      | none => rw [h2] at h; cases h
      | some j => rw [h2] at h; cases h; have := ih h2; simp; omega
theorem indexAny_fst (cs : List UInt8) : ∀ l, Lib.indexAny l cs = match fstOf l cs with | none => -1 | some i => (i : Int) := by
  intro l
  induction l with
  | nil => rfl
  | cons b l ih =>
    rw [Lib.indexAny, ih, fstOf_cons]
    cases h : cs.contains b with
    | true => rfl
    | false =>
      cases h2 : fstOf l cs with
      | none => rfl
      | some i =>
        have h3 : ((i : Int) == -1) = false := beq_eq_false_iff_ne.2 (by omega)
        simp [h3]
theorem indexByte_fst (c : UInt8) : ∀ l, Lib.indexByte l c = match fstOf l [c] with | none => -1 | some i => (i : Int) := by
  intro l
  rw [← Lib.indexAny_one, indexAny_fst]
/-- What reading a value leaves. -/
structure VlP where
  err : Int
  v : List UInt8
  rest : List UInt8
/-- A value, quoted or not; something stands behind it. -/
def valP (s : List UInt8) : VlP :=
  if s.head? = some 34 then
    match fstOf s.tail [34] with
    | none => ⟨5, [], []⟩
    | some e => if cleanQ (s.tail.take e) = false ∨ s.tail.drop (e + 1) = [] then ⟨5, [], []⟩ else ⟨0, s.tail.take e, s.tail.drop (e + 1)⟩
  else
    match fstOf s [44, 59, 58] with
    | none => ⟨5, [], []⟩
    | some e => if cleanQ (s.take e) = false then ⟨5, [], []⟩ else ⟨0, s.take e, s.drop e⟩
theorem valP_ok {s : List UInt8} (h : (valP s).err = 0) : (valP s).rest ≠ [] ∧ (valP s).rest.length ≤ s.length ∧ (valP s).v.length ≤ s.length := by
  unfold valP at *
  split at h
  · rename_i h1
    split at h
    · exact absurd h (show (5 : Int) ≠ 0 by decide)
    · rename_i e he
      split at h
      · exact absurd h (show (5 : Int) ≠ 0 by decide)
      · rename_i h2
        rw [if_pos h1]
        rw [if_neg h2]
        refine ⟨fun h3 => h2 (.inr h3), ?_, ?_⟩
        · simp only [List.length_drop, List.length_tail]; omega
        · simp only [List.length_take, List.length_tail]; omega
  · rename_i h1
    split at h
    · exact absurd h (show (5 : Int) ≠ 0 by decide)
    · rename_i e he
      split at h
      · exact absurd h (show (5 : Int) ≠ 0 by decide)
      · rename_i h2
        rw [if_neg h1]
        rw [if_neg h2]
        have := fstOf_lt he
        refine ⟨fun h3 => ?_, ?_, ?_⟩
        · have h4 := congrArg List.length h3
          simp at h4; omega
        · simp
        · simp only [List.length_take]; omega
/-- Values, one behind the other: ahead of each one a byte is passed over. -/
def valsP : Nat → List (List UInt8) → List UInt8 → Int × List (List UInt8) × List UInt8
  | 0, _, _ => (5, [], [])
  | f + 1, acc, s =>
    let r := valP s.tail
    if r.err ≠ 0 then (r.err, [], [])
    else if r.rest.head? = some 44 then valsP f (acc ++ [r.v]) r.rest
    else if r.rest.head? = some 59 ∨ r.rest.head? = some 58 then (0, acc ++ [r.v], r.rest)
    else (5, [], [])
/-- A param, and what stands behind it. -/
def prmP (s : List UInt8) : Int × Prm × List UInt8 :=
  match fstOf s [61] with
  | none => (5, ⟨⟨#[]⟩, []⟩, [])
  | some i =>
    if nameB (greatL (s.take i)) = false then (8, ⟨⟨#[]⟩, []⟩, [])
    else
      let r := valsP (s.length + 1) [] (s.drop i)
      if r.1 ≠ 0 then (r.1, ⟨⟨#[]⟩, []⟩, []) else (0, ⟨bs (greatL (s.take i)), r.2.1.map bs⟩, r.2.2)
theorem valsP_ok : ∀ (f : Nat) (acc : List (List UInt8)) (s : List UInt8), (valsP f acc s).1 = 0 → (valsP f acc s).2.2 ≠ [] ∧ (valsP f acc s).2.2.length ≤ s.tail.length ∧ ((valsP f acc s).2.2.head? = some 59 ∨ (valsP f acc s).2.2.head? = some 58) := by
  intro f
  induction f with
  | zero => intro acc s h; exact absurd h (show (5 : Int) ≠ 0 by decide)
  | succ f ih =>
    intro acc s h
    unfold valsP at h ⊢
    simp only at h ⊢
    by_cases h1 : (valP s.tail).err = 0
    · have hv := valP_ok h1
      rw [if_neg (by simp [h1])] at h ⊢
      by_cases h2 : (valP s.tail).rest.head? = some 44
      · rw [if_pos h2] at h ⊢
        obtain ⟨a, b, c⟩ := ih _ _ h
        refine ⟨a, ?_, c⟩
        have : (valP s.tail).rest.tail.length ≤ (valP s.tail).rest.length := by simp
        omega
      · rw [if_neg h2] at h ⊢
        by_cases h3 : (valP s.tail).rest.head? = some 59 ∨ (valP s.tail).rest.head? = some 58
        · rw [if_pos h3] at h ⊢
          exact ⟨hv.1, hv.2.1, h3⟩
        · rw [if_neg h3] at h; exact absurd h (show (5 : Int) ≠ 0 by decide)
    · rw [if_pos h1] at h; exact absurd h h1
theorem prmP_ok {s : List UInt8} (h : (prmP s).1 = 0) : (prmP s).2.2 ≠ [] ∧ (prmP s).2.2.length ≤ s.length ∧ ((prmP s).2.2.head? = some 59 ∨ (prmP s).2.2.head? = some 58) := by
  unfold prmP at *
  split at h
  · exact absurd h (show (5 : Int) ≠ 0 by decide)
  · rename_i i hi
    simp only at h ⊢
    by_cases h1 : nameB (greatL (s.take i)) = false
    · rw [if_pos h1] at h; exact absurd h (show (8 : Int) ≠ 0 by decide)
    · rw [if_neg h1] at h ⊢
      by_cases h2 : (valsP (s.length + 1) [] (s.drop i)).1 = 0
      · rw [if_neg (by simp [h2])]
        obtain ⟨a, b, c⟩ := valsP_ok _ _ _ h2
        refine ⟨a, ?_, c⟩
        simp at b ⊢; omega
      · rw [if_pos h2] at h; exact absurd h h2
/-- Params, one behind the other, as long as there's a semicolon. -/
def prmsP : Nat → List Prm → List UInt8 → Int × List Prm × List UInt8
  | 0, _, _ => (5, [], [])
  | f + 1, acc, s =>
    if s.head? = some 59 then
      let r := prmP s.tail
      if r.1 ≠ 0 then (r.1, [], []) else prmsP f (acc ++ [r.2.1]) r.2.2
    else (0, acc, s)
/-- A line. -/
def lnP (s : List UInt8) : Int × Ln :=
  match fstOf s [59, 58] with
  | none => (5, ln0)
  | some i =>
    if nameB (greatL (s.take i)) = false then (8, ln0)
    else
      let r := prmsP (s.length + 1) [] (s.drop i)
      if r.1 ≠ 0 then (r.1, ln0)
      else if cleanB r.2.2.tail = false then (5, ln0) else (0, ⟨bs (greatL (s.take i)), r.2.1, bs r.2.2.tail⟩)
/-- What reading a part leaves: an error, the part, the line. -/
structure PtP where
  err : Int
  part : Part
  pos : Nat
def loopP (lines : List (List UInt8)) (g : Nat → PtP) (nm : ByteArray) : Nat → List Ln → List Part → Nat → PtP
  | 0, _, _, a => ⟨13, part0, a⟩
  | f + 1, ls, ps, a =>
    if a < lines.length then
      let L := lnP (lines.getD a [])
      if L.1 ≠ 0 then ⟨L.1, part0, a⟩
      else if L.2.name.data.toList = [66, 69, 71, 73, 78] then
        (if (g a).err ≠ 0 then ⟨(g a).err, part0, (g a).pos⟩ else loopP lines g nm f ls (ps ++ [(g a).part]) (g a).pos)
      else if L.2.name.data.toList = [69, 78, 68] then
        (if L.2.prms ≠ [] ∨ greatL L.2.value.data.toList ≠ nm.data.toList then ⟨5, part0, a⟩ else ⟨0, .mk nm ls ps, a + 1⟩)
      else if ps ≠ [] then ⟨7, part0, a⟩
      else loopP lines g nm f (ls ++ [L.2]) ps (a + 1)
    else ⟨13, part0, a⟩
def partP (lines : List (List UInt8)) : Nat → Nat → PtP
  | 0, a =>
    if a < lines.length then
      let L := lnP (lines.getD a [])
      if L.1 ≠ 0 then ⟨L.1, part0, a⟩
      else if L.2.name.data.toList ≠ [66, 69, 71, 73, 78] ∨ L.2.prms ≠ [] then ⟨5, part0, a⟩
      else if nameB (greatL L.2.value.data.toList) = false then ⟨8, part0, a⟩
      else ⟨6, part0, a⟩
    else ⟨13, part0, a⟩
  | k + 1, a =>
    if a < lines.length then
      let L := lnP (lines.getD a [])
      if L.1 ≠ 0 then ⟨L.1, part0, a⟩
      else if L.2.name.data.toList ≠ [66, 69, 71, 73, 78] ∨ L.2.prms ≠ [] then ⟨5, part0, a⟩
      else if nameB (greatL L.2.value.data.toList) = false then ⟨8, part0, a⟩
      else loopP lines (partP lines k) (bs (greatL L.2.value.data.toList)) (lines.length + 1) [] [] (a + 1)
    else ⟨13, part0, a⟩
/-- What reading a text answers: an error, its place, the part. -/
def parseP (s : List UInt8) : Int × Int × Part :=
  if 100000 < s.length then (6, -1, part0)
  else if 2000 < (unfL s).length then (6, -1, part0)
  else
    let r := partP (unfL s) 8 0
    if r.err ≠ 0 then (r.err, (r.pos : Int), part0)
    else if r.pos < (unfL s).length then (5, (r.pos : Int), part0)
    else (0, -1, r.part)
end Go.Proofs.YtidgahnamdhflaaDoor.Psx
