/- plain.TextEscape, TextJoin, TextItems; the law TextLists. -/
import Derived.Test.YthlpknmfpbhlhaaDoorLstF
import Derived.Test.YthlpknmfpbhlhaaDoorTellAtC
import Derived.Test.YthlpknmfpbhlhaaDoorQTail
namespace Go.Proofs.YthlpknmfpbhlhaaDoor
open Go.RowKit Go.Shelf Fld
theorem plainEscape_any (s : ByteArray) (w : World) (hs : s.size ≤ 1048576) :
    Calls Tryd.prog 6 #[.string s] w fun e w' => e = .returned (.string ⟨(escL s.data.toList).toArray⟩) ∧ Below w.heap.size w w' := by
  have c := escape_any s w (by omega)
  generalize (⟨(escL s.data.toList).toArray⟩ : ByteArray) = R at c ⊢
  go_enter Tryd.func6, Tryd.ntmps6
  go_wp2_with (go_at_call 15; refine c.mono ?_; rintro e w' ⟨rfl, hb⟩)
  go_ret
  exact ⟨rfl, hb⟩
theorem plainJoin_any (oa : Option Addr) (L : List ByteArray) (n cap : Nat) (w : World) (hn : L.length = n) (hR : StrsR w oa L) (hn5 : n ≤ 512) (ht : totN L ≤ 1048576) :
    Calls Tryd.prog 8 #[.slice oa n cap] w fun e w' => e = .returned (.string ⟨(joinO L).toArray⟩) ∧ Below w.heap.size w w' := by
  have c := join_any oa L n cap w hn hR hn5 ht
  generalize (⟨(joinO L).toArray⟩ : ByteArray) = R at c ⊢
  go_enter Tryd.func8, Tryd.ntmps8
  go_wp2_with (go_at_call 16; refine c.mono ?_; rintro e w' ⟨rfl, hb⟩)
  go_ret
  exact ⟨rfl, hb⟩
/-- What plain.TextItems answers. -/
def PIt (R : IRes) (w : World) (e : Ending) (w' : World) : Prop :=
  Below w.heap.size w w' ∧ match R with
    | .ok L => ∃ v, e = .returned (.tuple #[v, .int .i64 0, .int .i64 (-1)]) ∧ StrL w' w.heap.size v L
    | .bad k => e = .returned (.tuple #[.slice none 0 0, .int .i64 5, .int .i64 (k : Int)])
set_option maxHeartbeats 4000000 in
theorem plainItems_any (s : ByteArray) (w : World) (hT : ErrT w) (hs : s.size ≤ 1048576) :
    Calls Tryd.prog 4 #[.string s] w (PIt (itemsF s.data.toList 0 [] []) w) := by
  have C := Lib.hid (items_any s w hs)
  obtain ⟨R, hR⟩ : ∃ R, itemsF s.data.toList 0 [] [] = R := ⟨_, rfl⟩
  rw [hR] at C ⊢
  clear hR
  have HT := Lib.hid hT
  clear hT
  cases R with
  | ok L =>
    go_enter Tryd.func4, Tryd.ntmps4
    go_wp2_with (first
      | (go_at_call 11; refine C.out.mono ?_; rintro e w1 ⟨hb1, v1, rfl, h1⟩; have HB1 := Lib.hid hb1; have H1 := Lib.hid h1; have HT1 := Lib.hid (HT.out.call hb1); clear hb1 h1)
      | (go_at_call 12; refine (tell_nil _).mono ?_; rintro e w2 ⟨rfl, hb2⟩; have HB2 := Lib.hid (thenB HB1.out hb2); have H2 := Lib.hid (H1.out.call hb2); clear hb2)
      | (go_at_call 13; refine (where_nil _).mono ?_; rintro e w3 ⟨rfl, hb3⟩; have HB3 := Lib.hid (thenB HB2.out hb3); have H3 := Lib.hid (H2.out.call hb3); clear hb3))
    refine bodyPost_ret (v := .tuple #[v1, .int .i64 0, .int .i64 (-1)]) (by simp [results, Tryd.results4, go_sem]) rfl ?_
    exact ⟨HB3.out, _, rfl, H3.out⟩
  | bad k =>
    go_enter Tryd.func4, Tryd.ntmps4
    go_wp2_with (first
      | (go_at_call 11; refine C.out.mono ?_; rintro e w1 ⟨hb1, g, rfl, hg0, hg1, c0, c1⟩; have HB1 := Lib.hid hb1; have HC0 := Lib.hid c0; have HC1 := Lib.hid c1; have HT1 := Lib.hid (HT.out.call hb1); clear hb1 c0 c1)
      | (go_at_call 12; refine (tell_at ⟨g, 0, none⟩ 5 _ HT1.out HC0.out).mono ?_; rintro e w2 ⟨rfl, hb2⟩; have HB2 := Lib.hid (thenB HB1.out hb2); have HT2 := Lib.hid (HT1.out.call hb2); have HC2 := Lib.hid ((hb2.cell (p := ⟨g, 1, none⟩) hg1).trans HC1.out); clear hb2)
      | (go_at_call 13; refine (where_at g 0 (k : Int) _ HT2.out HC2.out).mono ?_; rintro e w3 ⟨rfl, hb3⟩; have HB3 := Lib.hid (thenB HB2.out hb3); clear hb3))
    refine bodyPost_ret (v := .tuple #[.slice none 0 0, .int .i64 5, .int .i64 (k : Int)]) (by simp [results, Tryd.results4, go_sem]) rfl ?_
    exact ⟨HB3.out, rfl⟩
theorem itemsF_len (s : List UInt8) (i : Nat) (acc : List (List UInt8)) (cur : List UInt8) (L : List (List UInt8)) (h : itemsF s i acc cur = .ok L) : L.length ≤ acc.length + s.length + 1 := by
  fun_induction itemsF s i acc cur
  all_goals simp_all
  all_goals first | omega | (subst_vars; simp)
/-- What both answer: the list, its error and its place. -/
def rE : IRes → Int
  | .ok _ => 0
  | .bad _ => 5
def rK : IRes → Int
  | .ok _ => -1
  | .bad k => (k : Int)
def rL : IRes → List (List UInt8)
  | .ok l => l
  | .bad _ => []
theorem PIt.form {R : IRes} {w : World} {e : Ending} {w' : World} (h : PIt R w e w') : Below w.heap.size w w' ∧ ∃ v, e = .returned (.tuple #[v, .int .i64 (rE R), .int .i64 (rK R)]) ∧ StrL w' w.heap.size v (rL R) := by
  cases R with
  | ok L => exact h
  | bad k => exact ⟨h.1, _, h.2, World.ownsRow_nil _ _ _ _⟩
theorem RIt.form {R : IRes} {w : World} {e : Ending} {w' : World} (h : RIt R w e w') : Below w.heap.size w w' ∧ ∃ v, e = .returned (.tuple #[v, .agg #[.int .i64 (rE R), .int .i64 (rK R)]]) ∧ StrL w' w.heap.size v (rL R) := by
  cases R with
  | ok L => exact h
  | bad k => exact ⟨h.1, _, h.2, World.ownsRow_nil _ _ _ _⟩
def LSt (w : World) (z : Nat) (c0 c1 : Int) (v1 v2 : Value) (b1 b2 : Nat) (LL : List (List UInt8)) (x : World) : Prop :=
  Below w.heap.size w x ∧ x.cell? ⟨z, 0, none⟩ = some (.int .i64 c0) ∧ x.cell? ⟨z, 1, none⟩ = some (.int .i64 c1) ∧ z < x.heap.size ∧ StrL x b1 v1 LL ∧ StrL x b2 v2 LL
theorem LSt.call {w : World} {z : Nat} {c0 c1 : Int} {v1 v2 : Value} {b1 b2 : Nat} {LL : List (List UInt8)} {x y : World} (h : LSt w z c0 c1 v1 v2 b1 b2 LL x) (hb : Below x.heap.size x y) : LSt w z c0 c1 v1 v2 b1 b2 LL y :=
  ⟨thenB h.1 hb, (hb.cell (p := ⟨z, 0, none⟩) h.2.2.2.1).trans h.2.1, (hb.cell (p := ⟨z, 1, none⟩) h.2.2.2.1).trans h.2.2.1, Nat.lt_of_lt_of_le h.2.2.2.1 hb.size, h.2.2.2.2.1.call hb, h.2.2.2.2.2.call hb⟩
set_option maxRecDepth 100000 in
set_option maxHeartbeats 8000000 in
theorem textLists_walk (oa : Option Addr) (L : List ByteArray) (n cap : Nat) (t : ByteArray) (w : World) (hT : ErrT w) (hn : L.length = n) (hn6 : n ≤ 9223372036854775807) (hR : StrsR w oa L) (hL : totN L ≤ 1048576) (ht : t.size ≤ 1048576) :
    Calls Tryd.prog 3 #[.slice oa n cap, .string t] w fun e w' => e = .returned (.bool true) ∧ Below w.heap.size w w' := by
  have HT := Lib.hid hT
  have HRR := Lib.hid hR
  have HN := Lib.hid hn
  have HL := Lib.hid hL
  have C1 : Hid (∀ w0, ErrT w0 → Calls Tryd.prog 4 #[.string t] w0 (PIt (itemsF t.data.toList 0 [] []) w0)) := Lib.hid fun w0 h => plainItems_any t w0 h ht
  have C2 : Hid (∀ w0, Calls Tryd.prog 5 #[.string t] w0 (RIt (itemsF t.data.toList 0 [] []) w0)) := Lib.hid fun w0 => ritems_any t w0 ht
  have HM : Hid ((rL (itemsF t.data.toList 0 [] [])).length ≤ 1048577) := Lib.hid (by
    have h1 := itemsF_len t.data.toList 0 [] []
    rw [len_eq] at h1
    revert h1
    generalize itemsF t.data.toList 0 [] [] = R
    intro h1
    cases R with
    | ok l => have := h1 l rfl; simp [rL] at this ⊢; omega
    | bad k => simp [rL])
  obtain ⟨R, hRR⟩ : ∃ R, itemsF t.data.toList 0 [] [] = R := ⟨_, rfl⟩
  rw [hRR] at C1 C2 HM
  obtain ⟨E, hE⟩ : ∃ E : ByteArray, (⟨(escL t.data.toList).toArray⟩ : ByteArray) = E := ⟨_, rfl⟩
  have C3 : Hid (∀ w0, Calls Tryd.prog 6 #[.string t] w0 fun e w' => e = .returned (.string E) ∧ Below w0.heap.size w0 w') := Lib.hid fun w0 => hE ▸ plainEscape_any t w0 ht
  have C4 : Hid (∀ w0, Calls Tryd.prog 7 #[.string t] w0 fun e w' => e = .returned (.string E) ∧ Below w0.heap.size w0 w') := Lib.hid fun w0 => (rescape_any t w0 (by omega)).mono fun e w' h => ⟨hE ▸ h.1, by rw [h.2]; exact Below.refl _ _⟩
  obtain ⟨J, hJ⟩ : ∃ J : ByteArray, (⟨(joinO L).toArray⟩ : ByteArray) = J := ⟨_, rfl⟩
  have C5 : Hid (∀ w0, n ≤ 512 → StrsR w0 oa L → Calls Tryd.prog 8 #[.slice oa n cap] w0 fun e w' => e = .returned (.string J) ∧ Below w0.heap.size w0 w') := Lib.hid fun w0 h5 h => hJ ▸ plainJoin_any oa L n cap w0 hn h h5 hL
  have C6 : Hid (∀ w0, n ≤ 512 → StrsR w0 oa L → Calls Tryd.prog 9 #[.slice oa n cap] w0 fun e w' => e = .returned (.string J) ∧ Below w0.heap.size w0 w') := Lib.hid fun w0 h5 h => (rjoin_any oa L n cap w0 hn h h5 hL).mono fun e w' h => ⟨hJ ▸ h.1, by rw [h.2]; exact Below.refl _ _⟩
  clear hRR hE hJ hR hn hL hT
  clear ht
  by_cases h5 : 512 < n
  · go_enter Tryd.func3, Tryd.ntmps3
    go_wp2_with fail
    go_ret
    exact ⟨rfl, Below.refl _ _⟩
  · have H5 : Hid (n ≤ 512) := Lib.hid (by omega)
    go_enter Tryd.func3, Tryd.ntmps3
    go_wp2_with (first
      | (go_at_call 4; refine (C1.out _ HT.out).mono ?_; rintro e w1 h; obtain ⟨hb1, v1, rfl, h1⟩ := h.form; have HB1 := Lib.hid hb1; have H1 := Lib.hid h1; clear h hb1 h1)
      | (go_at_call 5; refine (C2.out _).mono ?_; rintro e w2 h; obtain ⟨hb2, v2, rfl, h2⟩ := h.form; have HS2 : Hid (LSt w w2.heap.size (rE R) (rK R) v1 v2 _ _ (rL R) (w2.alloc (.cells #[.int .i64 (rE R), .int .i64 (rK R)] 27))) := Lib.hid ⟨(thenB HB1.out hb2).alloc (thenB HB1.out hb2).size _, by simp, by simp, by simp, (H1.out.call hb2).alloc _, h2.alloc _⟩; clear h hb2 h2)
      | (go_at_call 6; refine (C3.out _).mono ?_; rintro e w3 ⟨rfl, hb3⟩; have HS3 := Lib.hid (HS2.out.call hb3); clear hb3)
      | (go_at_call 7; refine (C4.out _).mono ?_; rintro e w4 ⟨rfl, hb4⟩; have HS4 := Lib.hid (HS3.out.call hb4); clear hb4)
      | (go_at_call 8; refine (C5.out _ H5.out (HRR.out.call HS4.out.1)).mono ?_; rintro e w5 ⟨rfl, hb5⟩; have HS5 := Lib.hid (HS4.out.call hb5); clear hb5)
      | (go_at_call 9; refine (C6.out _ H5.out (HRR.out.call HS5.out.1)).mono ?_; rintro e w6 ⟨rfl, hb6⟩; have HS6 := Lib.hid (HS5.out.call hb6); clear hb6)
      | (go_at_call 10; refine (listStr_same _ _ _ _ (rL R) _ (by have := HM.out; omega) HS6.out.2.2.2.2.1 HS6.out.2.2.2.2.2).mono ?_; rintro e w7 ⟨rfl, hb7⟩; have HS7 := Lib.hid (HS6.out.call hb7); have p0 := HS7.out.2.1; have p1 := HS7.out.2.2.1; clear hb7))
    go_ret
    exact ⟨rfl, HS7.out.1⟩
end Go.Proofs.YthlpknmfpbhlhaaDoor
