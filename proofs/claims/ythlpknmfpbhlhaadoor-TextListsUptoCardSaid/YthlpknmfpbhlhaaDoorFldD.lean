/- strings.Cut at a line's end, strings.TrimSuffix at a return; text.Unfold. -/
import Derived.Test.YthlpknmfpbhlhaaDoorFldC
import Derived.Laws.OwnMore
import Derived.Deep.AppendLies
import Derived.Test.YthlpknmfpbhlhaaDoorAppend
namespace Go.Proofs.YthlpknmfpbhlhaaDoor
open Go.RowKit Go.Shelf Fld
/-! A list of texts that the call itself made. -/
def strV (l : List (List UInt8)) : List Value := l.map fun x => .string ⟨x.toArray⟩
theorem strV_len (l : List (List UInt8)) : (strV l).length = l.length := by simp [strV]
theorem strV_snoc (l : List (List UInt8)) (x : List UInt8) : strV (l ++ [x]) = strV l ++ [.string ⟨x.toArray⟩] := by simp [strV]
def StrL (w : World) (b : Nat) (v : Value) (l : List (List UInt8)) : Prop := w.ownsRow b 9 1 v l.length (strV l)
theorem StrL.call {w w' : World} {b : Nat} {v : Value} {l : List (List UInt8)} (h : StrL w b v l) (hb : Below w.heap.size w w') : StrL w' b v l :=
  World.ownsRow.kept (row := none) h ⟨hb.os, hb.tape, hb.output, hb.size, fun k hk _ => hb.block k hk⟩ (by cases hv : v.ownBlock <;> simp)
theorem StrL.form {w : World} {b : Nat} {v : Value} {l : List (List UInt8)} (h : StrL w b v l) : ∃ oa cap, v = .slice oa l.length cap := by
  rcases h.2 with ⟨rfl, h0⟩ | ⟨g, cap, cur, rfl, _⟩
  · exact ⟨none, 0, by rw [h0]⟩
  · exact ⟨_, cap, rfl⟩
theorem StrL.at {w : World} {b : Nat} {oa : Option Addr} {n cap : Nat} {l : List (List UInt8)} (h : StrL w b (.slice oa n cap) l) {k : Nat} (hk : k < l.length) :
    ∃ g, oa = some ⟨g, 0, none⟩ ∧ b ≤ g ∧ g < w.heap.size ∧ w.cell? ⟨g, k, none⟩ = some (.string ⟨(l.getD k []).toArray⟩) ∧ w.frozen? ⟨g, k, none⟩ = false := by
  obtain ⟨g, c, e, hb, hg⟩ := World.ownsRow.form h (by omega)
  cases e
  have h1 := World.ownsRow.cells h (g := g) rfl k (.string ⟨(l.getD k []).toArray⟩) (by simp [strV, List.getD, hk])
  rw [Addr.add_lit, Nat.zero_add] at h1
  exact ⟨g, rfl, hb, hg, h1, World.ownsRow.frozenAt h k⟩
theorem StrL.set {w : World} {b g n cap : Nat} {l : List (List UInt8)} (h : StrL w b (.slice (some ⟨g, 0, none⟩) n cap) l) (k : Nat) (x : List UInt8) : StrL (w.setCell ⟨g, k, none⟩ (.string ⟨x.toArray⟩)) b (.slice (some ⟨g, 0, none⟩) n cap) (l.set k x) := by
  obtain ⟨oa, c, e⟩ := StrL.form h
  cases e
  have h1 := (World.ownsRow.stored h k (.string ⟨x.toArray⟩)).1
  have e : (strV l).set k (.string ⟨x.toArray⟩) = strV (l.set k x) := by simp [strV, List.map_set]
  rw [e] at h1
  unfold StrL
  rw [List.length_set]
  exact h1
theorem idx_hit (c : UInt8) (p t : List UInt8) (h : c ∉ p) : Lib.indexByte (p ++ c :: t) c = p.length := by
  induction p with
  | nil => simp [Lib.indexByte]
  | cons b p ih =>
    simp at h
    have h1 : (b == c) = false := by simpa using fun e => h.1 e.symm
    rw [List.cons_append, Lib.indexByte, h1, ih h.2]
    have h2 : (((p.length : Nat) : Int) == -1) = false := by simp
    simp [h2]
theorem idx_miss (c : UInt8) (l : List UInt8) (h : c ∉ l) : Lib.indexByte l c = -1 := by
  induction l with
  | nil => rfl
  | cons b p ih =>
    simp at h
    have h1 : (b == c) = false := by simpa using fun e => h.1 e.symm
    rw [Lib.indexByte, h1, ih h.2]
    simp
/-- The first line of a text, and what stands behind it. -/
structure FirstL (r p t : ByteArray) : Prop where
  lines : linesOf r.data.toList = p.data.toList :: linesOf t.data.toList
  lt : t.size < r.size
  le : p.size + t.size ≤ r.size
theorem suf13 (l : List UInt8) : Lib.trimSuffix l [13] = trimR l := by
  unfold Lib.trimSuffix Lib.hasSuffix trimR
  rcases List.eq_nil_or_concat l with rfl | ⟨a, x, rfl⟩
  · rfl
  · by_cases h : x = 13
    · subst h
      have h1 : ([13] : List UInt8).isSuffixOf (a ++ [13]) = true := by rw [List.isSuffixOf_iff_suffix]; exact ⟨a, rfl⟩
      simp [h1]
    · have h1 : ([13] : List UInt8).isSuffixOf (a ++ [x]) = false := by
        rw [Bool.eq_false_iff]
        intro hc
        rw [List.isSuffixOf_iff_suffix] at hc
        obtain ⟨t, ht⟩ := hc
        have := List.append_inj_right' ht rfl
        simp at this
        exact h this.symm
      simp [h1, h]
end Go.Proofs.YthlpknmfpbhlhaaDoor
