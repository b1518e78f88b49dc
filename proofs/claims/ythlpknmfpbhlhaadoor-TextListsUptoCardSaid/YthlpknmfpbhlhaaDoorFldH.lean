/- The document's Unfold. -/
import Derived.Test.YthlpknmfpbhlhaaDoorFldG
namespace Go.Proofs.YthlpknmfpbhlhaaDoor
open Go.RowKit Go.Shelf Fld
theorem StrL.low {w : World} {b c : Nat} {v : Value} {l : List (List UInt8)} (h : StrL w c v l) (hb : b ≤ c) : StrL w b v l := by
  refine ⟨h.1, ?_⟩
  rcases h.2 with h2 | ⟨g, cap, cur, h3, h4, h5⟩
  · exact .inl h2
  · exact .inr ⟨g, cap, cur, h3, Nat.le_trans hb h4, h5⟩
theorem slice_cap {w : World} {b : Nat} {oa : Option Addr} {n cap : Nat} {l : List (List UInt8)} (h : StrL w b (.slice oa n cap) l) : (n : Int) ≤ (cap : Int) := by
  rcases h.2 with ⟨h2, h3⟩ | ⟨g, c, cur, h3, h4, h5, h6, h7⟩
  · cases h2; omega
  · cases h3; omega
theorem linesOf_at (l : List UInt8) (k : Nat) (h : k < (linesOf l).length) : (linesOf l).getD k [] = (splitC 10 l).getD k [] := by
  unfold linesOf at *
  split at h
  · rename_i h1
    rw [if_pos h1]
    rw [List.length_dropLast] at h
    simp only [List.getD, List.getElem?_dropLast, if_pos h]
  · rename_i h1
    rw [if_neg h1]
theorem getLast_at (l : List (List UInt8)) (h : l ≠ []) (m : Nat) (hm : l.length = m + 1) : l.getD m [] = l.getLast h := by
  rw [List.getLast_eq_getElem, List.getD, List.getElem?_eq_getElem (by omega)]
  simp [hm]
theorem lines_len (l : List UInt8) (m : Nat) (hm : (splitC 10 l).length = m + 1) : (linesOf l).length = if (splitC 10 l).getD m [] = [] then m else m + 1 := by
  rw [getLast_at _ (splitC_ne 10 l) m hm]
  unfold linesOf
  split <;> simp [hm]
theorem trimR_cr (l : List UInt8) (z : Nat) (h : l.length = z + 1) (hb : l.getD z 0 = 13) : trimR l = l.take z := by
  have e : l.getLast? = some 13 := by
    rw [List.getLast?_eq_getElem?, h, Nat.add_sub_cancel, List.getElem?_eq_getElem (by omega)]
    rw [List.getD, List.getElem?_eq_getElem (by omega)] at hb
    exact congrArg some hb
  unfold trimR
  rw [if_pos e, List.dropLast_eq_take, h, Nat.add_sub_cancel]
theorem trimR_no (l : List UInt8) (z : Nat) (h : l.length = z + 1) (hb : l.getD z 0 ≠ 13) : trimR l = l := by
  have e : l.getLast? ≠ some 13 := by
    rw [List.getLast?_eq_getElem?, h, Nat.add_sub_cancel, List.getElem?_eq_getElem (by omega)]
    rw [List.getD, List.getElem?_eq_getElem (by omega)] at hb
    exact fun hc => hb (Option.some.inj hc)
  unfold trimR
  rw [if_neg e]
theorem foldl_flat (xs acc : List (List UInt8)) : (xs.foldl stepU acc).flatten.length ≤ acc.flatten.length + xs.flatten.length ∧ (xs.foldl stepU acc).length ≤ acc.length + xs.length := by
  induction xs generalizing acc with
  | nil => simp
  | cons x xs ih =>
    have h1 := ih (stepU acc x)
    have h2 := stepU_flat acc x
    simp only [List.foldl_cons, List.flatten_cons, List.length_append, List.length_cons]
    omega
theorem take_flat (xs : List (List UInt8)) (k : Nat) : (xs.take k).flatten.length ≤ xs.flatten.length := by
  have h := congrArg (fun l => (List.flatten l).length) (List.take_append_drop k xs)
  simp only [List.flatten_append, List.length_append] at h
  omega
theorem foldl_snoc (xs : List (List UInt8)) (k : Nat) (h : k < xs.length) : (xs.take (k + 1)).foldl stepU [] = stepU ((xs.take k).foldl stepU []) (xs.getD k []) := by
  rw [List.take_succ_eq_append_getElem h, List.foldl_append]
  simp [List.getD, h]
end Go.Proofs.YthlpknmfpbhlhaaDoor
