/- text.Unfold. -/
import Derived.Test.YthlpknmfpbhlhaaDoorFldD
namespace Go.Proofs.YthlpknmfpbhlhaaDoor
open Go.RowKit Go.Shelf Fld
theorem str_info : (Tryd.prog.info? 9).map (fun i => (i.zero, i.size, i.bytes)) = some (some (.string ⟨#[]⟩), 1, 16) := by kernel_rfl
theorem cells_at {w : World} {z : Nat} (hz : w.heap.size = z) (vs : List Value) (e : TypeId) : ∀ j u, vs[j]? = some u → (w.alloc (.cells vs.toArray e)).cell? ((⟨z, 0, none⟩ : Addr).add j) = some u := by
  subst hz; exact cells_here w vs e
/-- What a function that makes a list of texts answers. -/
def TxtR (l : List (List UInt8)) (w : World) (e : Ending) (w' : World) : Prop := ∃ v, e = .returned v ∧ StrL w' w.heap.size v l ∧ Below w.heap.size w w'
theorem StrL.drew {w : World} {b : Nat} {v : Value} {l : List (List UInt8)} (h : StrL w b v l) : StrL w.drew b v l := h
def lastB (b : UInt8) : Bool := b == 32 || b == 9
theorem stepU_app (acc : List (List UInt8)) (x : List UInt8) (h : goes (trimR x) = false ∨ acc = []) : stepU acc x = acc ++ [trimR x] := by
  unfold stepU
  rcases h with h | h
  · simp [h]
  · subst h; simp
theorem stepU_join (acc : List (List UInt8)) (x : List UInt8) (m : Nat) (hm : acc.length = m + 1) (h : goes (trimR x) = true) : stepU acc x = acc.set m (acc.getD m [] ++ (trimR x).drop 1) := by
  have hne : acc ≠ [] := by intro h0; rw [h0] at hm; simp at hm
  have hi : acc.isEmpty = false := by simpa using hne
  unfold stepU
  rw [h, hi]
  have e := List.dropLast_concat_getLast hne
  have e2 : acc.getLastD [] = acc.getD m [] := by
    rw [List.getLastD_eq_getLast?, List.getLast?_eq_getElem?, hm]; simp [List.getD]
  rw [e2]
  simp only [Bool.not_false, Bool.and_self, if_true]
  have e3 : acc.dropLast.length = m := by simp [hm]
  obtain ⟨D, hD⟩ : ∃ D, acc.dropLast = D := ⟨_, rfl⟩
  obtain ⟨Z, hZ⟩ : ∃ Z, acc.getLast hne = Z := ⟨_, rfl⟩
  rw [hD] at e3
  rw [hD, hZ] at e
  generalize acc.getD m [] = G
  rw [hD, ← e, List.set_append_right _ _ (by omega), e3]
  simp
theorem goes_hit (b : UInt8) (t : List UInt8) : goes (b :: t) = (b == 32 || b == 9) := rfl
theorem getD_flat (acc : List (List UInt8)) (m : Nat) : (acc.getD m []).length ≤ acc.flatten.length := by
  induction acc generalizing m with
  | nil => simp
  | cons a l ih =>
    cases m with
    | zero => simp
    | succ m => have := ih m; simp at this ⊢; omega
end Go.Proofs.YthlpknmfpbhlhaaDoor
