/- Plain: parts of a calendar's text, whether they may be, how they are written (no program in sight). -/
import Derived.Test.YtidgahnamdhflaaDoorFldA
import Derived.Lib.SlTrimSet
import Derived.Lib.IndexAny
namespace Go.Proofs.YtidgahnamdhflaaDoor.Prt
open Go Go.Proofs.YtidgahnamdhflaaDoor.Fld
structure Prm where
  name : ByteArray
  vals : List ByteArray
structure Ln where
  name : ByteArray
  prms : List Prm
  value : ByteArray
inductive Part where
  | mk (name : ByteArray) (lines : List Ln) (parts : List Part)
def Part.name : Part → ByteArray | .mk s _ _ => s
def Part.lines : Part → List Ln | .mk _ l _ => l
def Part.parts : Part → List Part | .mk _ _ p => p
/-- A letter of a name. -/
def okC (c : UInt8) : Bool := (decide (65 ≤ c.toNat) && decide (c.toNat ≤ 90)) || (decide (48 ≤ c.toNat) && decide (c.toNat ≤ 57)) || c == 45
def nameB (l : List UInt8) : Bool := decide (1 ≤ l.length) && decide (l.length ≤ 40) && l.all okC
/-- A control. -/
def ctl (c : UInt8) : Bool := (decide (c.toNat < 32) && c != 9) || c == 127
def cleanB (l : List UInt8) : Bool := !l.any ctl
def cleanQ (l : List UInt8) : Bool := l.all fun c => !ctl c && c != 34
/-- The first error of several. -/
def firstE {α : Type} (f : α → Int) : List α → Int
  | [] => 0
  | x :: r => if f x ≠ 0 then f x else firstE f r
def valE (v : ByteArray) : Int := if cleanQ v.data.toList = true then 0 else 5
def prmE (x : Prm) : Int := if nameB x.name.data.toList = false then 8 else if x.vals.length = 0 then 13 else firstE valE x.vals
def headE (l : Ln) : Int := if nameB l.name.data.toList = false ∨ l.name.data.toList = [66, 69, 71, 73, 78] ∨ l.name.data.toList = [69, 78, 68] then 8 else 0
def tailE (l : Ln) : Int := if cleanB l.value.data.toList = true then 0 else 5
def lineE (l : Ln) : Int := if headE l ≠ 0 then headE l else if firstE prmE l.prms ≠ 0 then firstE prmE l.prms else tailE l
theorem firstE_nil {α : Type} (f : α → Int) : firstE f [] = 0 := rfl
theorem firstE_hit {α : Type} {f : α → Int} {x : α} {r : List α} (h : f x ≠ 0) : firstE f (x :: r) = f x := if_pos h
theorem firstE_go {α : Type} {f : α → Int} {x : α} {r : List α} (h : f x = 0) : firstE f (x :: r) = firstE f r := if_neg (by simp [h])
theorem firstE_drop {α : Type} (f : α → Int) (d : α) (l : List α) (k : Nat) (hk : k < l.length) : firstE f (l.drop k) = if f (l.getD k d) ≠ 0 then f (l.getD k d) else firstE f (l.drop (k + 1)) := by
  rw [List.drop_eq_getElem_cons hk, show l.getD k d = l[k] by simp [List.getD, hk]]
  rfl
theorem firstE_end {α : Type} (f : α → Int) (l : List α) (k : Nat) (hk : l.length ≤ k) : firstE f (l.drop k) = 0 := by rw [List.drop_of_length_le hk]; rfl
/-- Whether a part may be: what is wrong, and how many lines there are; k more levels are allowed. -/
def chkL (f : Int → Part → Int × Int) : Int → List Part → Int × Int
  | n, [] => (0, n)
  | n, p :: r => if (f n p).1 ≠ 0 then f n p else chkL f (f n p).2 r
def chkP : Nat → Int → Part → Int × Int
  | 0, n, _ => (6, n)
  | k + 1, n, p =>
    if 2000 < n + (2 + (p.lines.length : Int)) then (6, n) else
    if nameB p.name.data.toList = false then (8, n) else
    if firstE lineE p.lines ≠ 0 then (firstE lineE p.lines, n) else chkL (chkP k) (n + (2 + (p.lines.length : Int))) p.parts
theorem chkL_nil (f : Int → Part → Int × Int) (n : Int) : chkL f n [] = (0, n) := rfl
theorem chkL_hit {f : Int → Part → Int × Int} {n : Int} {p : Part} {r : List Part} (h : (f n p).1 ≠ 0) : chkL f n (p :: r) = f n p := if_pos h
theorem chkL_go {f : Int → Part → Int × Int} {n : Int} {p : Part} {r : List Part} (h : (f n p).1 = 0) : chkL f n (p :: r) = chkL f (f n p).2 r := if_neg (by simp [h])
theorem chkP_zero (n : Int) (p : Part) : chkP 0 n p = (6, n) := rfl
theorem chkP_many {k : Nat} {n : Int} {p : Part} (h : 2000 < n + (2 + (p.lines.length : Int))) : chkP (k + 1) n p = (6, n) := if_pos h
theorem chkP_name {k : Nat} {n : Int} {p : Part} (h : ¬ 2000 < n + (2 + (p.lines.length : Int))) (h2 : nameB p.name.data.toList = false) : chkP (k + 1) n p = (8, n) := by
  unfold chkP; rw [if_neg h, if_pos h2]
theorem chkP_line {k : Nat} {n : Int} {p : Part} (h : ¬ 2000 < n + (2 + (p.lines.length : Int))) (h2 : nameB p.name.data.toList = true) (h3 : firstE lineE p.lines ≠ 0) : chkP (k + 1) n p = (firstE lineE p.lines, n) := by
  unfold chkP; rw [if_neg h, if_neg (by simp [h2]), if_pos h3]
theorem chkP_parts {k : Nat} {n : Int} {p : Part} (h : ¬ 2000 < n + (2 + (p.lines.length : Int))) (h2 : nameB p.name.data.toList = true) (h3 : firstE lineE p.lines = 0) : chkP (k + 1) n p = chkL (chkP k) (n + (2 + (p.lines.length : Int))) p.parts := by
  unfold chkP; rw [if_neg h, if_neg (by simp [h2]), if_neg (by simp [h3])]
/-! ### As a text -/
def special (v : List UInt8) : Bool := Lib.containsAny v [44, 59, 58]
def quote (v : List UInt8) : List UInt8 := if special v = true then 34 :: (v ++ [34]) else v
/-- The first k values. -/
def valsL (vs : List ByteArray) : Nat → List UInt8
  | 0 => []
  | k + 1 => valsL vs k ++ (if k = 0 then [] else [44]) ++ quote (vs.getD k ⟨#[]⟩).data.toList
def prmL (x : Prm) : List UInt8 := 59 :: (x.name.data.toList ++ (61 :: valsL x.vals x.vals.length))
def prmsL (xs : List Prm) : Nat → List UInt8
  | 0 => []
  | k + 1 => prmsL xs k ++ prmL (xs.getD k ⟨⟨#[]⟩, []⟩)
def lineL (l : Ln) : List UInt8 := l.name.data.toList ++ prmsL l.prms l.prms.length ++ (58 :: l.value.data.toList)
def ln0 : Ln := ⟨⟨#[]⟩, [], ⟨#[]⟩⟩
def prm0 : Prm := ⟨⟨#[]⟩, []⟩
def part0 : Part := .mk ⟨#[]⟩ [] []
def linesL (ls : List Ln) : Nat → List UInt8
  | 0 => []
  | k + 1 => linesL ls k ++ foldL (lineL (ls.getD k ln0))
def beginL : List UInt8 := [66, 69, 71, 73, 78, 58]
def endL : List UInt8 := [69, 78, 68, 58]
mutual
def textP : Part → List UInt8
  | .mk s ls ps => foldL (beginL ++ s.data.toList) ++ linesL ls ls.length ++ textPs ps ++ foldL (endL ++ s.data.toList)
def textPs : List Part → List UInt8
  | [] => []
  | p :: r => textP p ++ textPs r
end
theorem textP_eq (p : Part) : textP p = foldL (beginL ++ p.name.data.toList) ++ linesL p.lines p.lines.length ++ textPs p.parts ++ foldL (endL ++ p.name.data.toList) := by cases p; rw [textP]; rfl
theorem textPs_snoc (l : List Part) (p : Part) : textPs (l ++ [p]) = textPs l ++ textP p := by
  induction l with
  | nil => simp [textPs]
  | cons a l ih => rw [List.cons_append, textPs, ih, textPs, List.append_assoc]
theorem textPs_take (l : List Part) (k : Nat) (hk : k < l.length) : textPs (l.take (k + 1)) = textPs (l.take k) ++ textP (l.getD k part0) := by
  rw [List.take_succ_eq_append_getElem hk, textPs_snoc, show l.getD k part0 = l[k] by simp [List.getD, hk]]
/-! ### How much -/
def sumB {α : Type} (f : α → Nat) : List α → Nat
  | [] => 0
  | x :: r => f x + sumB f r
theorem sumB_at {α : Type} (f : α → Nat) (d : α) : ∀ (l : List α) (k : Nat), k < l.length → f (l.getD k d) ≤ sumB f l
  | [], k, h => absurd h (Nat.not_lt_zero k)
  | x :: r, 0, _ => by simp [sumB]
  | x :: r, k + 1, h => by
    have := sumB_at f d r k (by simpa using h)
    simp only [List.getD_cons_succ, sumB]
    omega
theorem sumB_len {α : Type} {f : α → Nat} (h : ∀ x, 1 ≤ f x) (l : List α) : l.length ≤ sumB f l := by
  induction l with
  | nil => exact Nat.le_refl _
  | cons x r ih => have := h x; simp only [List.length_cons, sumB]; omega
def bkV (v : ByteArray) : Nat := v.size + 1
def bkX (x : Prm) : Nat := x.name.size + 1 + sumB bkV x.vals + 2
def bkL (l : Ln) : Nat := l.name.size + 1 + sumB bkX l.prms + 1 + (l.value.size + 1) + 1
mutual
def bkP : Part → Nat
  | .mk s ls ps => s.size + 1 + sumB bkL ls + 1 + (bkPs ps + 1) + 1
def bkPs : List Part → Nat
  | [] => 0
  | p :: r => bkP p + bkPs r
end
theorem bkP_eq (p : Part) : bkP p = p.name.size + 1 + sumB bkL p.lines + 1 + (bkPs p.parts + 1) + 1 := by cases p; rw [bkP]; rfl
theorem bkPs_at : ∀ (l : List Part) (k : Nat), k < l.length → bkP (l.getD k part0) ≤ bkPs l
  | [], k, h => absurd h (Nat.not_lt_zero k)
  | x :: r, 0, _ => by simp [bkPs]
  | x :: r, k + 1, h => by
    have := bkPs_at r k (by simpa using h)
    simp only [List.getD_cons_succ, bkPs]
    omega
theorem bkP_pos (p : Part) : 1 ≤ bkP p := by rw [bkP_eq]; omega
theorem bkPs_len : ∀ l : List Part, l.length ≤ bkPs l
  | [] => Nat.le_refl _
  | p :: r => by
    have h1 := bkPs_len r
    have h2 := bkP_pos p
    rw [bkPs, List.length_cons]
    omega
theorem bkPs_take : ∀ (l : List Part) (k : Nat), bkPs (l.take k) ≤ bkPs l
  | [], k => by simp
  | x :: r, 0 => by simp [bkPs]
  | x :: r, k + 1 => by have := bkPs_take r k; simp only [List.take_succ_cons, bkPs]; omega
theorem len_sz (s : ByteArray) : s.data.toList.length = s.size := (Lib.size_eq s).symm
theorem quote_len (v : List UInt8) : (quote v).length ≤ v.length + 2 := by unfold quote; split <;> simp
theorem sum_take {α : Type} (f : α → Nat) (d : α) : ∀ (l : List α) (k : Nat), k < l.length → sumB f (l.take (k + 1)) = sumB f (l.take k) + f (l.getD k d)
  | [], k, h => absurd h (Nat.not_lt_zero k)
  | x :: r, 0, _ => by simp [sumB]
  | x :: r, k + 1, h => by
    have := sum_take f d r k (by simpa using h)
    simp only [List.take_succ_cons, sumB, List.getD_cons_succ]
    omega
theorem sum_le {α : Type} (f : α → Nat) : ∀ (l : List α) (k : Nat), sumB f (l.take k) ≤ sumB f l
  | [], k => by simp
  | x :: r, 0 => by simp [sumB]
  | x :: r, k + 1 => by have := sum_le f r k; simp only [List.take_succ_cons, sumB]; omega
theorem valsL_len (vs : List ByteArray) : ∀ k, k ≤ vs.length → (valsL vs k).length ≤ 3 * sumB bkV (vs.take k)
  | 0, _ => by simp [valsL]
  | k + 1, h => by
    have ih := valsL_len vs k (by omega)
    have h1 := sum_take bkV ⟨#[]⟩ vs k (by omega)
    have h2 := quote_len (vs.getD k ⟨#[]⟩).data.toList
    have h3 : (if k = 0 then [] else [44] : List UInt8).length ≤ 1 := by split <;> simp
    rw [h1]
    unfold valsL
    rw [len_sz] at h2
    simp only [List.length_append]
    unfold bkV at *
    omega
theorem prmL_len (x : Prm) : (prmL x).length ≤ 3 * bkX x := by
  have h := valsL_len x.vals x.vals.length (Nat.le_refl _)
  rw [List.take_length] at h
  unfold prmL bkX
  simp only [List.length_cons, List.length_append, len_sz]
  omega
theorem prmsL_len (xs : List Prm) : ∀ k, k ≤ xs.length → (prmsL xs k).length ≤ 3 * sumB bkX (xs.take k)
  | 0, _ => by simp [prmsL]
  | k + 1, h => by
    have ih := prmsL_len xs k (by omega)
    have h1 := sum_take bkX ⟨⟨#[]⟩, []⟩ xs k (by omega)
    have h2 := prmL_len (xs.getD k ⟨⟨#[]⟩, []⟩)
    rw [h1]
    unfold prmsL
    simp only [List.length_append]
    omega
theorem lineL_len (l : Ln) : (lineL l).length ≤ 3 * bkL l := by
  have h := prmsL_len l.prms l.prms.length (Nat.le_refl _)
  rw [List.take_length] at h
  unfold lineL bkL
  simp only [List.length_cons, List.length_append, len_sz]
  omega
theorem linesL_len (ls : List Ln) : ∀ k, k ≤ ls.length → (linesL ls k).length ≤ 14 * sumB bkL (ls.take k)
  | 0, _ => by simp [linesL]
  | k + 1, h => by
    have ih := linesL_len ls k (by omega)
    have h1 := sum_take bkL ln0 ls k (by omega)
    have h2 := lineL_len (ls.getD k ln0)
    have h3 := foldL_len (lineL (ls.getD k ln0))
    have h4 : 1 ≤ bkL (ls.getD k ln0) := by unfold bkL; omega
    rw [h1]
    unfold linesL
    simp only [List.length_append]
    omega
mutual
theorem textP_len : ∀ p : Part, (textP p).length ≤ 30 * bkP p
  | .mk s ls ps => by
    have h1 := linesL_len ls ls.length (Nat.le_refl _)
    have h2 := textPs_len ps
    have h3 := foldL_len (beginL ++ s.data.toList)
    have h4 := foldL_len (endL ++ s.data.toList)
    rw [List.take_length] at h1
    rw [textP, bkP]
    simp only [List.length_append, len_sz, beginL, endL, List.length_cons, List.length_nil] at *
    omega
theorem textPs_len : ∀ l : List Part, (textPs l).length ≤ 30 * bkPs l
  | [] => by simp [textPs]
  | p :: r => by
    have h1 := textP_len p
    have h2 := textPs_len r
    rw [textPs, bkPs, List.length_append]
    omega
end
/-! ### The library's words -/
theorem containsAny_any (l cs : List UInt8) : Lib.containsAny l cs = l.any (cs.contains ·) := by
  unfold Lib.containsAny
  induction l with
  | nil => rfl
  | cons b l ih =>
    have h := Lib.indexAny_ge cs l
    rw [List.any_cons, Lib.indexAny]
    cases hb : cs.contains b with
    | true => simp
    | false =>
      simp only [Bool.false_eq_true, if_false, Bool.false_or]
      rw [← ih]
      by_cases h1 : Lib.indexAny l cs = -1
      · simp [h1]
      · have h2 : (Lib.indexAny l cs == -1) = false := by simpa using h1
        rw [h2]
        have h3 : (0 : Int) ≤ Lib.indexAny l cs := by omega
        simp [h3]; omega
def letters : List UInt8 := [65, 66, 67, 68, 69, 70, 71, 72, 73, 74, 75, 76, 77, 78, 79, 80, 81, 82, 83, 84, 85, 86, 87, 88, 89, 90, 48, 49, 50, 51, 52, 53, 54, 55, 56, 57, 45]
theorem letters_ok (c : UInt8) : letters.contains c = okC c := by
  have h : ∀ n : Fin 256, letters.contains (UInt8.ofNat n.val) = okC (UInt8.ofNat n.val) := by decide +kernel
  have h1 := h ⟨c.toNat, c.toNat_lt⟩
  simpa using h1
theorem dropWhile_nil {α : Type} (p : α → Bool) (l : List α) : l.dropWhile p = [] ↔ l.all p = true := by
  induction l with
  | nil => simp
  | cons a l ih =>
    cases h : p a with
    | true => simp [h, ih]
    | false => simp [h]
theorem trimS_nil (l cs : List UInt8) : Lib.trimS l cs = [] ↔ l.all (cs.contains ·) = true := by
  unfold Lib.trimS Lib.trimLeftS
  rw [dropWhile_nil]
  have key : Lib.trimRightS l cs = [] ↔ l.all (cs.contains ·) = true := by
    unfold Lib.trimRightS
    rw [List.reverse_eq_nil_iff, dropWhile_nil, List.all_reverse]
  constructor
  · intro h
    by_cases h0 : Lib.trimRightS l cs = []
    · exact key.1 h0
    · exfalso
      unfold Lib.trimRightS at h h0
      rw [List.all_reverse] at h
      have h1 : (l.reverse.dropWhile (cs.contains ·)) ≠ [] := by simpa using h0
      obtain ⟨a, r, e⟩ := List.exists_cons_of_ne_nil h1
      have h2 := List.head?_dropWhile_not (cs.contains ·) l.reverse
      rw [e] at h h2
      simp at h h2
      simp_all
  · intro h
    rw [key.2 h]; rfl
end Go.Proofs.YtidgahnamdhflaaDoor.Prt
