/- Lists of texts that the call itself made; strings.Join, strconv.Itoa of a small number. (The first part is turned from FldD, FldF, FldH.) -/
import Derived.Test.YtdnbnpknmdcljaaDoorCrnF
import Derived.Test.YtdnbnpknmdcljaaDoorCrnLay
import Derived.Laws.OwnMore
import Derived.Deep.AppendLies
import Derived.Test.YtdnbnpknmdcljaaDoorAppend
namespace Go.Proofs.YtdnbnpknmdcljaaDoor
open Go.RowKit Go.Shelf
def strV (l : List (List UInt8)) : List Value := l.map fun x => .string ⟨x.toArray⟩
theorem strV_len (l : List (List UInt8)) : (strV l).length = l.length := by simp [strV]
theorem strV_snoc (l : List (List UInt8)) (x : List UInt8) : strV (l ++ [x]) = strV l ++ [.string ⟨x.toArray⟩] := by simp [strV]
def StrL (w : World) (b : Nat) (v : Value) (l : List (List UInt8)) : Prop := w.ownsRow b 9 1 v l.length (strV l)
theorem StrL.call {w w' : World} {b : Nat} {v : Value} {l : List (List UInt8)} (h : StrL w b v l) (hb : Below w.heap.size w w') : StrL w' b v l :=
  World.ownsRow.kept (row := none) h ⟨hb.os, hb.tape, hb.output, hb.size, fun k hk _ => hb.block k hk⟩ (by cases hv : v.ownBlock <;> simp)
theorem StrL.form {w : World} {b : Nat} {v : Value} {l : List (List UInt8)} (h : StrL w b v l) : ∃ oa cap, v = .slice oa l.length cap := by
  rcases h.2 with ⟨rfl, h0⟩ | ⟨g, cap, cur, rfl, _⟩
  · exact ⟨none, 0, by rw [h0]⟩
  · exact ⟨_, cap, rfl⟩
theorem StrL.at {w : World} {b : Nat} {oa : Option Addr} {n cap : Nat} {l : List (List UInt8)} (h : StrL w b (.slice oa n cap) l) {k : Nat} (hk : k < l.length) :
    ∃ g, oa = some ⟨g, 0, none⟩ ∧ b ≤ g ∧ g < w.heap.size ∧ w.cell? ⟨g, k, none⟩ = some (.string ⟨(l.getD k []).toArray⟩) ∧ w.frozen? ⟨g, k, none⟩ = false := by
  obtain ⟨g, c, e, hb, hg⟩ := World.ownsRow.form h (by omega)
  cases e
  have h1 := World.ownsRow.cells h (g := g) rfl k (.string ⟨(l.getD k []).toArray⟩) (by simp [strV, List.getD, hk])
  rw [Addr.add_lit, Nat.zero_add] at h1
  exact ⟨g, rfl, hb, hg, h1, World.ownsRow.frozenAt h k⟩
theorem StrL.set {w : World} {b g n cap : Nat} {l : List (List UInt8)} (h : StrL w b (.slice (some ⟨g, 0, none⟩) n cap) l) (k : Nat) (x : List UInt8) : StrL (w.setCell ⟨g, k, none⟩ (.string ⟨x.toArray⟩)) b (.slice (some ⟨g, 0, none⟩) n cap) (l.set k x) := by
  obtain ⟨oa, c, e⟩ := StrL.form h
  cases e
  have h1 := (World.ownsRow.stored h k (.string ⟨x.toArray⟩)).1
  have e : (strV l).set k (.string ⟨x.toArray⟩) = strV (l.set k x) := by simp [strV, List.map_set]
  rw [e] at h1
  unfold StrL
  rw [List.length_set]
  exact h1
theorem StrL.low {w : World} {b c : Nat} {v : Value} {l : List (List UInt8)} (h : StrL w c v l) (hb : b ≤ c) : StrL w b v l := by
  refine ⟨h.1, ?_⟩
  rcases h.2 with h2 | ⟨g, cap, cur, h3, h4, h5⟩
  · exact .inl h2
  · exact .inr ⟨g, cap, cur, h3, Nat.le_trans hb h4, h5⟩
theorem slice_cap {w : World} {b : Nat} {oa : Option Addr} {n cap : Nat} {l : List (List UInt8)} (h : StrL w b (.slice oa n cap) l) : (n : Int) ≤ (cap : Int) := by
  rcases h.2 with ⟨h2, h3⟩ | ⟨g, c, cur, h3, h4, h5, h6, h7⟩
  · cases h2; omega
  · cases h3; omega
theorem str_info : (Tryd.prog.info? 9).map (fun i => (i.zero, i.size, i.bytes)) = some (some (.string ⟨#[]⟩), 1, 16) := by kernel_rfl
theorem cells_at {w : World} {z : Nat} (hz : w.heap.size = z) (vs : List Value) (e : TypeId) : ∀ j u, vs[j]? = some u → (w.alloc (.cells vs.toArray e)).cell? ((⟨z, 0, none⟩ : Addr).add j) = some u := by
  subst hz; exact cells_here w vs e
theorem bxJ : Builder.Extra Tryd.prog layJn_ren := { sizeBuilder := by kernel_rfl, liesBuilder := by kernel_rfl, t5 := Tryd.underlying5, a5 := Tryd.isAgg5, z5 := Tryd.sizeOf5, v5 := Tryd.zeroValue5, infoByte := by kernel_rfl, cellsByte := by kernel_rfl, sizeByte := by kernel_rfl, neB5 := by decide }
theorem join_call (X : List (List UInt8)) (sep : ByteArray) (v : Value) (b : Nat) (w : World) (h : StrL w b v X) (hn : X.length ≤ 1000) (ht : (Lib.join X sep.data.toList).length ≤ 140737488355328) :
    Calls Tryd.prog 18 #[v, .string sep] w fun e w' => e = .returned (.string ⟨(Lib.join X sep.data.toList).toArray⟩) ∧ Below w.heap.size w w' := by
  obtain ⟨oa, cap, rfl⟩ := h.form
  have hcap := slice_cap h
  rcases Nat.eq_zero_or_pos X.length with h0 | h0
  · obtain rfl := List.eq_nil_of_length_eq_zero h0
    refine (Any.strings_Join_none layJn bxJ oa cap sep w).mono ?_
    rintro e w' ⟨rfl, rfl⟩
    exact ⟨rfl, Below.refl _ _⟩
  · obtain ⟨g, rfl, -, hgz, -, -⟩ := StrL.at (k := 0) h h0
    have hx : ((X.map (fun x => (⟨x.toArray⟩ : ByteArray))).map (·.data.toList)) = X := by rw [List.map_map]; exact (List.map_congr_left (g := id) fun x _ => rfl).trans (List.map_id _)
    have hl : (X.map (fun x => (⟨x.toArray⟩ : ByteArray))).length = X.length := by simp
    have c := Any.strings_Join layJn bxJ g 0 cap (X.map (fun x => (⟨x.toArray⟩ : ByteArray))) sep w ?_ hgz (by omega) (by omega) (by rw [hx]; exact ht)
    · rw [hx, hl] at c
      exact c
    · intro j x hjx
      rw [List.getElem?_map] at hjx
      obtain ⟨y, hy, rfl⟩ := Option.map_eq_some_iff.1 hjx
      obtain ⟨hj1, rfl⟩ := List.getElem?_eq_some_iff.1 hy
      obtain ⟨g', e, -, -, hc, -⟩ := StrL.at h hj1
      cases e
      rw [Nat.zero_add, hc]
      simp [List.getD, hj1]
theorem itoa_any (n : Int) (w : World) (h0 : 0 ≤ n) (h1 : n < 100) : Calls Tryd.prog 13 #[.int .i64 n] w fun e w' => e = .returned (.string ⟨(numL n).toArray⟩) ∧ w = w' := by
  have c := Any.strconv_Itoa_small layIt n.toNat (by omega) w
  rw [Int.toNat_of_nonneg h0] at c
  refine c.mono ?_
  rintro e w' ⟨rfl, rfl⟩
  exact ⟨rfl, rfl⟩
end Go.Proofs.YtdnbnpknmdcljaaDoor
