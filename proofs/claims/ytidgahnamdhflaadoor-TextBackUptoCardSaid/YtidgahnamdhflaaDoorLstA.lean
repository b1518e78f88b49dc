/- Plain: lists of texts as one text; no program in sight. -/
import Derived.Test.YtidgahnamdhflaaDoorFldA
import Derived.Lib.Join
namespace Go.Proofs.YtidgahnamdhflaaDoor.Fld
def escB (b : UInt8) : List UInt8 := if b = 92 ∨ b = 44 ∨ b = 59 then [92, b] else if b = 10 then [92, 110] else [b]
def escL (l : List UInt8) : List UInt8 := (l.map escB).flatten
theorem escB_len (b : UInt8) : (escB b).length ≤ 2 := by
  unfold escB
  split
  · simp
  · split <;> simp
theorem escL_len (l : List UInt8) : (escL l).length ≤ 2 * l.length := by
  induction l with
  | nil => simp [escL]
  | cons b l ih =>
    have h := escB_len b
    simp only [escL, List.map_cons, List.flatten_cons, List.length_append, List.length_cons] at ih ⊢
    omega
theorem escL_snoc (l : List UInt8) (k : Nat) (h : k < l.length) : escL (l.take (k + 1)) = escL (l.take k) ++ escB l[k] := by
  unfold escL
  rw [List.take_succ_eq_append_getElem h, List.map_append, List.flatten_append]
  congr 1
  simp
def joinE (l : List (List UInt8)) : List UInt8 := Lib.join (l.map escL) [44]
theorem join_snoc (xs : List (List UInt8)) (x sep : List UInt8) (h : xs ≠ []) : Lib.join (xs ++ [x]) sep = Lib.join xs sep ++ (sep ++ x) := by
  unfold Lib.join
  induction xs with
  | nil => exact absurd rfl h
  | cons a xs ih =>
    cases xs with
    | nil => simp [List.intercalate]
    | cons b xs =>
      have := ih (by simp)
      simp [List.intercalate] at this ⊢
      rw [this]
theorem join_len (xs : List (List UInt8)) : (Lib.join xs [44]).length ≤ xs.flatten.length + xs.length := by
  unfold Lib.join
  induction xs with
  | nil => simp [List.intercalate]
  | cons a xs ih =>
    cases xs with
    | nil => simp [List.intercalate]
    | cons b xs =>
      simp [List.intercalate] at ih ⊢
      omega
theorem joinE_len (l : List (List UInt8)) : (joinE l).length ≤ 2 * l.flatten.length + l.length := by
  have h := join_len (l.map escL)
  have h2 : (l.map escL).flatten.length ≤ 2 * l.flatten.length := by
    induction l with
    | nil => simp
    | cons a l ih =>
      have := escL_len a
      have ih := ih (join_len _)
      simp only [List.map_cons, List.flatten_cons, List.length_append] at ih ⊢
      omega
  unfold joinE
  simp only [List.length_map] at h
  omega
/-- What reading a list answers: the list, or where it is none. -/
inductive IRes where
  | ok (l : List (List UInt8))
  | bad (k : Nat)
def itemsF : List UInt8 → Nat → List (List UInt8) → List UInt8 → IRes
  | [], _, acc, cur => .ok (acc ++ [cur])
  | b :: t, i, acc, cur =>
    if b = 59 then .bad i
    else if b = 44 then itemsF t (i + 1) (acc ++ [cur]) []
    else if b = 92 then
      match t with
      | [] => .bad i
      | c :: t' => if c = 110 ∨ c = 78 then itemsF t' (i + 2) acc (cur ++ [10]) else if c = 92 ∨ c = 44 ∨ c = 59 then itemsF t' (i + 2) acc (cur ++ [c]) else .bad i
    else itemsF t (i + 1) acc (cur ++ [b])
theorem it_nil (i : Nat) (acc : List (List UInt8)) (cur : List UInt8) : itemsF [] i acc cur = .ok (acc ++ [cur]) := by simp [itemsF]
theorem it_semi (t : List UInt8) (i : Nat) (acc : List (List UInt8)) (cur : List UInt8) : itemsF (59 :: t) i acc cur = .bad i := by
  conv => lhs; unfold itemsF
  simp
theorem it_comma (t : List UInt8) (i : Nat) (acc : List (List UInt8)) (cur : List UInt8) : itemsF (44 :: t) i acc cur = itemsF t (i + 1) (acc ++ [cur]) [] := by
  conv => lhs; unfold itemsF
  simp
theorem it_plain (b : UInt8) (t : List UInt8) (i : Nat) (acc : List (List UInt8)) (cur : List UInt8) (h1 : b ≠ 59) (h2 : b ≠ 44) (h3 : b ≠ 92) : itemsF (b :: t) i acc cur = itemsF t (i + 1) acc (cur ++ [b]) := by
  conv => lhs; unfold itemsF
  simp [h1, h2, h3]
theorem it_end (i : Nat) (acc : List (List UInt8)) (cur : List UInt8) : itemsF [92] i acc cur = .bad i := by simp [itemsF]
theorem it_nl (c : UInt8) (t : List UInt8) (i : Nat) (acc : List (List UInt8)) (cur : List UInt8) (h : c = 110 ∨ c = 78) : itemsF (92 :: c :: t) i acc cur = itemsF t (i + 2) acc (cur ++ [10]) := by
  conv => lhs; unfold itemsF
  simp [h]
theorem it_esc (c : UInt8) (t : List UInt8) (i : Nat) (acc : List (List UInt8)) (cur : List UInt8) (h0 : ¬(c = 110 ∨ c = 78)) (h : c = 92 ∨ c = 44 ∨ c = 59) : itemsF (92 :: c :: t) i acc cur = itemsF t (i + 2) acc (cur ++ [c]) := by
  conv => lhs; unfold itemsF
  simp [h0, h]
theorem it_bad (c : UInt8) (t : List UInt8) (i : Nat) (acc : List (List UInt8)) (cur : List UInt8) (h0 : ¬(c = 110 ∨ c = 78)) (h : ¬(c = 92 ∨ c = 44 ∨ c = 59)) : itemsF (92 :: c :: t) i acc cur = .bad i := by
  conv => lhs; unfold itemsF
  simp [h0, h]
end Go.Proofs.YtidgahnamdhflaaDoor.Fld
