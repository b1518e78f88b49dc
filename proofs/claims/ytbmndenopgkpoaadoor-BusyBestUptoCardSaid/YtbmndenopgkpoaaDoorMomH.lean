/- NEWV Not and And. -/
import Derived.Test.YtbmndenopgkpoaaDoorMomG
namespace Go.Proofs.YtbmndenopgkpoaaDoor
open Go.RowKit
def fromAt (f : Int) (l : List Iv) (k : Nat) : Int := if k = 0 then f else (l.getD (k - 1) iv0).2
def gapsP (f : Int) (l : List Iv) : Nat → List Iv
  | 0 => []
  | k + 1 => gapsP f l k ++ [(fromAt f l k, (l.getD k iv0).1)]
theorem gapsP_len (f : Int) (l : List Iv) : ∀ k, (gapsP f l k).length = k := by
  intro k
  induction k with
  | zero => rfl
  | succ k ih => unfold gapsP; rw [List.length_append, ih]; rfl
theorem gapsP_cons (f : Int) (p : Iv) (l : List Iv) : ∀ k, gapsP f (p :: l) (k + 1) = (f, p.1) :: gapsP p.2 l k := by
  intro k
  induction k with
  | zero => rfl
  | succ k ih =>
    have e1 : gapsP f (p :: l) (k + 1 + 1) = gapsP f (p :: l) (k + 1) ++ [(fromAt f (p :: l) (k + 1), ((p :: l).getD (k + 1) iv0).1)] := rfl
    have e2 : gapsP p.2 l (k + 1) = gapsP p.2 l k ++ [(fromAt p.2 l k, (l.getD k iv0).1)] := rfl
    rw [e1, e2, ih]
    have e3 : fromAt f (p :: l) (k + 1) = fromAt p.2 l k := by
      unfold fromAt
      rw [if_neg (by omega)]
      cases k with
      | zero => rfl
      | succ k => rw [if_neg (by omega)]; rfl
    rw [e3]
    rfl
theorem gapsP_all (f : Int) : ∀ (l : List Iv), gapsM f l = gapsP f l l.length ++ [(fromAt f l l.length, hiM)] := by
  intro l
  induction l generalizing f with
  | nil => rfl
  | cons p l ih =>
    unfold gapsM
    rw [ih, List.length_cons, gapsP_cons]
    have e3 : fromAt f (p :: l) (l.length + 1) = fromAt p.2 l l.length := by
      unfold fromAt
      rw [if_neg (by omega)]
      cases h : l.length with
      | zero => rfl
      | succ k => rw [if_neg (by omega)]; rfl
    rw [e3]
    rfl
theorem grown_box {w w' : World} {row : Option Nat} {o1 o2 : Obj} {i : Nat} (hrow : ∀ k, row = some k → k < w.heap.size) (hg : ((w.alloc o1).alloc o2).grownBy w' row) : w'.cell? ⟨w.heap.size, i, none⟩ = (w.alloc o1).cell? ⟨w.heap.size, i, none⟩ ∧ w.heap.size < w'.heap.size := by
  have h1 := hg.block w.heap.size (by simp; omega) (fun e => by have := hrow _ e.symm; omega)
  refine ⟨?_, Nat.lt_of_lt_of_le (by simp; omega) hg.size⟩
  rw [World.cell?_of_block (w := (w.alloc o1).alloc o2) h1]
  exact World.cell?_alloc_lt (w.alloc o1) o2 ⟨w.heap.size, i, none⟩ (by simp)
end Go.Proofs.YtbmndenopgkpoaaDoor
