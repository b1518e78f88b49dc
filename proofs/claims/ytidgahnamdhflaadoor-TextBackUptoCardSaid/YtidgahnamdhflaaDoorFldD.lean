/- strings.Cut at a line's end, strings.TrimSuffix at a return; text.Unfold. -/
import Derived.Test.YtidgahnamdhflaaDoorFldC
import Derived.Laws.OwnMore
import Derived.Deep.AppendLies
import Derived.Test.YtidgahnamdhflaaDoorAppend
namespace Go.Proofs.YtidgahnamdhflaaDoor
open Go.RowKit Go.Shelf Fld
/-! A list of texts that the call itself made. -/
def strV (l : List (List UInt8)) : List Value := l.map fun x => .string ⟨x.toArray⟩
theorem strV_len (l : List (List UInt8)) : (strV l).length = l.length := by simp [strV]
theorem strV_snoc (l : List (List UInt8)) (x : List UInt8) : strV (l ++ [x]) = strV l ++ [.string ⟨x.toArray⟩] := by simp [strV]
def StrL (w : World) (b : Nat) (v : Value) (l : List (List UInt8)) : Prop := w.ownsRow b 9 1 v l.length (strV l)
theorem StrL.call {w w' : World} {b : Nat} {v : Value} {l : List (List UInt8)} (h : StrL w b v l) (hb : Below w.heap.size w w') : StrL w' b v l :=
  World.ownsRow.kept (row := none) h ⟨hb.os, hb.tape, hb.output, hb.size, fun k hk _ => hb.block k hk⟩ (by cases hv : v.ownBlock <;> simp)
theorem StrL.form {w : World} {b : Nat} {v : Value} {l : List (List UInt8)} (h : StrL w b v l) : ∃ oa cap, v = .slice oa l.length cap := by
  rcases h.2 with ⟨rfl, h0⟩ | ⟨g, cap, cur, rfl, _⟩
  · exact ⟨none, 0, by rw [h0]⟩
  · exact ⟨_, cap, rfl⟩
theorem StrL.at {w : World} {b : Nat} {oa : Option Addr} {n cap : Nat} {l : List (List UInt8)} (h : StrL w b (.slice oa n cap) l) {k : Nat} (hk : k < l.length) :
    ∃ g, oa = some ⟨g, 0, none⟩ ∧ b ≤ g ∧ g < w.heap.size ∧ w.cell? ⟨g, k, none⟩ = some (.string ⟨(l.getD k []).toArray⟩) ∧ w.frozen? ⟨g, k, none⟩ = false := by
  obtain ⟨g, c, e, hb, hg⟩ := World.ownsRow.form h (by omega)
  cases e
  have h1 := World.ownsRow.cells h (g := g) rfl k (.string ⟨(l.getD k []).toArray⟩) (by simp [strV, List.getD, hk])
  rw [Addr.add_lit, Nat.zero_add] at h1
  exact ⟨g, rfl, hb, hg, h1, World.ownsRow.frozenAt h k⟩
theorem StrL.set {w : World} {b g n cap : Nat} {l : List (List UInt8)} (h : StrL w b (.slice (some ⟨g, 0, none⟩) n cap) l) (k : Nat) (x : List UInt8) : StrL (w.setCell ⟨g, k, none⟩ (.string ⟨x.toArray⟩)) b (.slice (some ⟨g, 0, none⟩) n cap) (l.set k x) := by
  obtain ⟨oa, c, e⟩ := StrL.form h
  cases e
  have h1 := (World.ownsRow.stored h k (.string ⟨x.toArray⟩)).1
  have e : (strV l).set k (.string ⟨x.toArray⟩) = strV (l.set k x) := by simp [strV, List.map_set]
  rw [e] at h1
  unfold StrL
  rw [List.length_set]
  exact h1
theorem idx_hit (c : UInt8) (p t : List UInt8) (h : c ∉ p) : Lib.indexByte (p ++ c :: t) c = p.length := by
  induction p with
  | nil => simp [Lib.indexByte]
  | cons b p ih =>
    simp at h
    have h1 : (b == c) = false := by simpa using fun e => h.1 e.symm
    rw [List.cons_append, Lib.indexByte, h1, ih h.2]
    have h2 : (((p.length : Nat) : Int) == -1) = false := by simp
    simp [h2]
theorem idx_miss (c : UInt8) (l : List UInt8) (h : c ∉ l) : Lib.indexByte l c = -1 := by
  induction l with
  | nil => rfl
  | cons b p ih =>
    simp at h
    have h1 : (b == c) = false := by simpa using fun e => h.1 e.symm
    rw [Lib.indexByte, h1, ih h.2]
    simp
/-- The first line of a text, and what stands behind it. -/
structure FirstL (r p t : ByteArray) : Prop where
  lines : linesOf r.data.toList = p.data.toList :: linesOf t.data.toList
  lt : t.size < r.size
  le : p.size + t.size ≤ r.size
set_option maxRecDepth 100000 in
set_option maxHeartbeats 2000000 in
theorem lcut_hit (r : ByteArray) (p t : List UInt8) (w : World) (h : 10 ∉ p) (hr : r.data.toList = p ++ 10 :: t) (hs : r.size ≤ 1099511627776) :
    Calls Tryd.prog 75 #[.string r, .string ⟨#[10]⟩] w fun e w' => e = .returned (.tuple #[.string (r.extract 0 p.length), .string (r.extract (p.length + 1) r.size), .bool true]) ∧ Below w.heap.size w w' := by
  have ix := Any.stringslite_Index_one layIx r 10 w
  rw [hr, idx_hit 10 p t h] at ix
  have hlen : p.length + 1 ≤ r.size := by rw [← len_eq, hr]; simp
  obtain ⟨n, hn⟩ : ∃ n, p.length = n := ⟨_, rfl⟩
  rw [hn] at ix hlen ⊢
  clear hn hr h
  have k1 : IntKind.i64.wrap ((n : Int) + 1) = (n : Int) + 1 := IntWalk.i64_in _ (by omega)
  have k2 : (0 : Int) ≤ (n : Int) + 1 := by omega
  have k3 : ((n : Int) + 1).toNat = n + 1 := by omega
  have k4 : (n : Int) ≤ (r.size : Int) := by omega
  have k5 : (n : Int) + 1 ≤ (r.size : Int) := by omega
  go_enter Tryd.func75, Tryd.ntmps75
  go_wp2_with (go_at_call 90; refine ix.mono ?_; rintro e w' ⟨rfl, rfl⟩)
  go_quiet (fail)
  go_wp2
  go_ret3
  exact ⟨rfl, below_drewN (Below.refl _ _) _⟩
set_option maxRecDepth 100000 in
theorem lcut_miss (r : ByteArray) (w : World) (h : 10 ∉ r.data.toList) :
    Calls Tryd.prog 75 #[.string r, .string ⟨#[10]⟩] w fun e w' => e = .returned (.tuple #[.string r, .string ⟨#[]⟩, .bool false]) ∧ Below w.heap.size w w' := by
  have ix := Any.stringslite_Index_one layIx r 10 w
  rw [idx_miss 10 _ h] at ix
  go_enter Tryd.func75, Tryd.ntmps75
  go_wp2_with (go_at_call 90; refine ix.mono ?_; rintro e w' ⟨rfl, rfl⟩)
  go_ret3
  exact ⟨rfl, Below.refl _ _⟩
theorem first_line (r : ByteArray) (h : r.data.toList ≠ []) (hs : r.size ≤ 1099511627776) : ∃ (p t : ByteArray) (b : Bool), FirstL r p t ∧ ∀ w, Calls Tryd.prog 60 #[.string r, .string ⟨#[10]⟩] w fun e w' => e = .returned (.tuple #[.string p, .string t, .bool b]) ∧ Below w.heap.size w w' := by
  by_cases h10 : (10 : UInt8) ∈ r.data.toList
  · obtain ⟨p, t, hr, hp⟩ := List.eq_append_cons_of_mem h10
    have hlen : p.length + 1 ≤ r.size := by rw [← len_eq, hr]; simp
    have e1 : (r.extract 0 p.length).data.toList = p := by rw [ext_to, hr]; simp
    have e2 : (r.extract (p.length + 1) r.size).data.toList = t := by rw [ext_from, hr]; simp
    refine ⟨r.extract 0 p.length, r.extract (p.length + 1) r.size, true, ⟨?_, ?_, ?_⟩, fun w => ?_⟩
    · rw [e1, e2, hr]; exact linesOf_cut p t hp
    · rw [ByteArray.size_extract]; omega
    · rw [ByteArray.size_extract, ByteArray.size_extract]; omega
    · have c := lcut_hit r p t w hp hr hs
      generalize r.extract 0 p.length = P at *
      generalize r.extract (p.length + 1) r.size = T at *
      clear e1 e2 hlen hp hr h10
      go_enter Tryd.func60, Tryd.ntmps60
      go_wp2_with (go_at_call 75; refine c.mono ?_; rintro e w' ⟨rfl, hb⟩)
      go_ret3
      exact ⟨rfl, hb⟩
  · refine ⟨r, ⟨#[]⟩, false, ⟨?_, ?_, ?_⟩, fun w => ?_⟩
    · rw [linesOf_one _ h h10]; rfl
    · show 0 < r.size
      rw [← len_eq]; exact List.length_pos_iff.2 h
    · show r.size + 0 ≤ r.size; omega
    · have c := lcut_miss r w h10
      clear h10 h
      go_enter Tryd.func60, Tryd.ntmps60
      go_wp2_with (go_at_call 75; refine c.mono ?_; rintro e w' ⟨rfl, hb⟩)
      go_ret3
      exact ⟨rfl, hb⟩
theorem suf13 (l : List UInt8) : Lib.trimSuffix l [13] = trimR l := by
  unfold Lib.trimSuffix Lib.hasSuffix trimR
  rcases List.eq_nil_or_concat l with rfl | ⟨a, x, rfl⟩
  · rfl
  · by_cases h : x = 13
    · subst h
      have h1 : ([13] : List UInt8).isSuffixOf (a ++ [13]) = true := by rw [List.isSuffixOf_iff_suffix]; exact ⟨a, rfl⟩
      simp [h1]
    · have h1 : ([13] : List UInt8).isSuffixOf (a ++ [x]) = false := by
        rw [Bool.eq_false_iff]
        intro hc
        rw [List.isSuffixOf_iff_suffix] at hc
        obtain ⟨t, ht⟩ := hc
        have := List.append_inj_right' ht rfl
        simp at this
        exact h this.symm
      simp [h1, h]
theorem trim_any (p : ByteArray) (w : World) (hs : p.size ≤ 1099511627776) :
    Calls Tryd.prog 61 #[.string p, .string ⟨#[13]⟩] w fun e w' => e = .returned (.string ⟨(trimR p.data.toList).toArray⟩) ∧ w' = w := by
  rw [← suf13]
  exact Any.strings_TrimSuffix layTS p ⟨#[13]⟩ w (by omega)
end Go.Proofs.YtidgahnamdhflaaDoor
