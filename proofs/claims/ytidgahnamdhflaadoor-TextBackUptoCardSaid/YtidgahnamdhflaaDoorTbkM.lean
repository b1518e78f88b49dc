/- Join of a list that came in; plain.TextJoin, TextItems. -/
import Derived.Test.YtidgahnamdhflaaDoorLstD
import Derived.Test.YtidgahnamdhflaaDoorTellAtC
import Derived.Test.YtidgahnamdhflaaDoorQTail
namespace Go.Proofs.YtidgahnamdhflaaDoor
open Go.RowKit Go.Shelf Fld
theorem add_block (a : Addr) (k : Nat) : (a.add k).block = a.block := by unfold Addr.add; split <;> rfl
/-- A []string that came in. -/
def StrsR (w : World) (oa : Option Addr) (L : List ByteArray) : Prop :=
  (0 < L.length → ∃ a, oa = some a) ∧ ∀ a, oa = some a → (0 < L.length → a.block < w.heap.size) ∧ ∀ i, i < L.length → w.cell? (a.add i) = some (.string (L.getD i ⟨#[]⟩))
theorem StrsR.call {w w' : World} {oa : Option Addr} {L : List ByteArray} (h : StrsR w oa L) (hb : Below w.heap.size w w') : StrsR w' oa L := by
  refine ⟨h.1, fun a ha => ⟨fun h0 => Nat.lt_of_lt_of_le ((h.2 a ha).1 h0) hb.size, fun i hi => ?_⟩⟩
  exact (hb.cell (p := a.add i) (by rw [add_block]; exact (h.2 a ha).1 (by omega))).trans ((h.2 a ha).2 i hi)
def lists (L : List ByteArray) : List (List UInt8) := L.map (·.data.toList)
def totN (L : List ByteArray) : Nat := (lists L).flatten.length
theorem totN_at (L : List ByteArray) (i : Nat) : (L.getD i ⟨#[]⟩).size ≤ totN L := by
  unfold totN lists
  induction L generalizing i with
  | nil => simp [List.getD]; rfl
  | cons x L ih =>
    simp only [List.map_cons, List.flatten_cons, List.length_append]
    cases i with
    | zero => simp [List.getD]
    | succ i => have := ih i; simp [List.getD] at this ⊢; omega
def escs (L : List ByteArray) : List (List UInt8) := (lists L).map escL
theorem escs_snoc (L : List ByteArray) (k : Nat) (h : k < L.length) : escs (L.take (k + 1)) = escs (L.take k) ++ [escL (L.getD k ⟨#[]⟩).data.toList] := by
  unfold escs lists
  rw [List.take_succ_eq_append_getElem h, List.map_append, List.map_append]
  simp [List.getD, h]
theorem escs_len (L : List ByteArray) : (escs L).length = L.length := by simp [escs, lists]
theorem flat_take (L : List ByteArray) (k : Nat) : totN (L.take k) ≤ totN L := by
  unfold totN lists
  rw [List.map_take]
  exact take_flat _ k
theorem escs_flat (L : List ByteArray) : (escs L).flatten.length ≤ 2 * totN L := by
  unfold escs totN
  induction lists L with
  | nil => simp
  | cons a l ih =>
    have := escL_len a
    simp only [List.map_cons, List.flatten_cons, List.length_append] at ih ⊢
    omega
def joinO (L : List ByteArray) : List UInt8 := Lib.join (escs L) [44]
theorem joinO_len (L : List ByteArray) : (joinO L).length ≤ 2 * totN L + L.length := by
  have h1 := join_len (escs L)
  have h2 := escs_flat L
  rw [escs_len] at h1
  unfold joinO
  omega
theorem bxJ : Builder.Extra Tryd.prog layJn_ren := { sizeBuilder := by kernel_rfl, liesBuilder := by kernel_rfl, t5 := Tryd.underlying5, a5 := Tryd.isAgg5, z5 := Tryd.sizeOf5, v5 := Tryd.zeroValue5, infoByte := by kernel_rfl, cellsByte := by kernel_rfl, sizeByte := by kernel_rfl, neB5 := by decide }
theorem joined (L : List ByteArray) (v : Value) (b : Nat) (w : World) (h : StrL w b v (escs L)) (hn : L.length ≤ 512) (ht : totN L ≤ 1048576) :
    Calls Tryd.prog 48 #[v, .string ⟨#[44]⟩] w fun e w' => e = .returned (.string ⟨(joinO L).toArray⟩) ∧ Below w.heap.size w w' := by
  obtain ⟨oa, cap, rfl⟩ := h.form
  have hcap := slice_cap h
  rw [escs_len] at h hcap ⊢
  rcases Nat.eq_zero_or_pos L.length with h0 | h0
  · obtain rfl := List.eq_nil_of_length_eq_zero h0
    refine (Any.strings_Join_none layJn bxJ oa cap ⟨#[44]⟩ w).mono ?_
    rintro e w' ⟨rfl, rfl⟩
    exact ⟨rfl, Below.refl _ _⟩
  · obtain ⟨g, rfl, -, hgz, -, -⟩ := StrL.at (k := 0) h (by rw [escs_len]; exact h0)
    have hx : (((escs L).map (fun x => (⟨x.toArray⟩ : ByteArray))).map (·.data.toList)) = escs L := by rw [List.map_map]; exact (List.map_congr_left (g := id) fun x _ => rfl).trans (List.map_id _)
    have hl : ((escs L).map (fun x => (⟨x.toArray⟩ : ByteArray))).length = L.length := by simp [escs_len]
    have hj := joinO_len L
    have c := Any.strings_Join layJn bxJ g 0 cap ((escs L).map (fun x => (⟨x.toArray⟩ : ByteArray))) ⟨#[44]⟩ w ?_ hgz (by omega) (by omega) (by rw [hx]; show (joinO L).length ≤ _; omega)
    · rw [hx, hl] at c
      exact c
    · intro j x hjx
      rw [List.getElem?_map] at hjx
      obtain ⟨y, hy, rfl⟩ := Option.map_eq_some_iff.1 hjx
      obtain ⟨hj1, rfl⟩ := List.getElem?_eq_some_iff.1 hy
      obtain ⟨g', e, -, -, hc, -⟩ := StrL.at h hj1
      cases e
      rw [Nat.zero_add, hc]
      simp [List.getD, hj1]
set_option maxRecDepth 100000 in
set_option maxHeartbeats 8000000 in
theorem join_any (oa : Option Addr) (L : List ByteArray) (n cap : Nat) (w : World) (hn : L.length = n) (hR : StrsR w oa L) (hn5 : n ≤ 512) (ht : totN L ≤ 1048576) :
    Calls Tryd.prog 30 #[.slice oa n cap] w fun e w' => e = .returned (.string ⟨(joinO L).toArray⟩) ∧ Below w.heap.size w w' := by
  obtain ⟨i0, hi0, hz0, hz1, hz2⟩ := info_parts str_info
  have HRR := Lib.hid hR
  have HN := Lib.hid hn
  have HT := Lib.hid ht
  have CJ : Hid (∀ (v : Value) (b : Nat) (w0 : World), StrL w0 b v (escs L) → Calls Tryd.prog 48 #[v, .string ⟨#[44]⟩] w0 fun e w' => e = .returned (.string ⟨(joinO L).toArray⟩) ∧ Below w0.heap.size w0 w') := Lib.hid fun v b w0 h => joined L v b w0 h (by omega) ht
  obtain ⟨RJ, hRJ⟩ : ∃ R : ByteArray, (⟨(joinO L).toArray⟩ : ByteArray) = R := ⟨_, rfl⟩
  rw [hRJ] at CJ ⊢
  clear hR hn ht hRJ
  go_enter Tryd.func30, Tryd.ntmps30
  go_wp2_with fail
  go_loopw [3, 8] (fun v c wr => ∃ (ob : Option Addr) (k cap2 : Nat), v = .slice ob k cap2 ∧ c = .int .i64 (k : Int) ∧ k ≤ n ∧ Hid (StrL wr w.heap.size (.slice ob k cap2) (escs (L.take k)) ∧ Below w.heap.size w wr)) (fun _ c _ => n - (intOf c).toNat)
  case atStart => exact ⟨none, 0, 0, rfl, rfl, by omega, Lib.hid ⟨World.ownsRow_nil _ _ _ _, Below.refl _ _⟩⟩
  case round =>
    obtain ⟨ob, k, cap2, rfl, rfl, hk, HR⟩ := hrel
    obtain ⟨wA, rfl⟩ : ∃ wo : World, wo = wr := ⟨_, rfl⟩
    have HSZ := Lib.hid HR.out.2.size
    by_cases hkn : k < n
    · have hkL : k < L.length := by rw [HN.out]; exact hkn
      obtain ⟨a, rfl⟩ := HRR.out.1 (by omega)
      have hc := ((HRR.out.call HR.out.2).2 a rfl).2 k hkL
      have HX := Lib.hid (escs_snoc L k hkL)
      have hxs := totN_at L k
      obtain ⟨X, hX⟩ : ∃ X, L.getD k ⟨#[]⟩ = X := ⟨_, rfl⟩
      rw [hX] at hc HX hxs
      have CE : Hid (∀ w0, Calls Tryd.prog 47 #[.string X] w0 fun e w' => e = .returned (.string ⟨(escL X.data.toList).toArray⟩) ∧ Below w0.heap.size w0 w') := Lib.hid fun w0 => escape_any X w0 (by have := HT.out; omega)
      obtain ⟨E, hE⟩ : ∃ E : ByteArray, (⟨(escL X.data.toList).toArray⟩ : ByteArray) = E := ⟨_, rfl⟩
      have HE := Lib.hid hE
      rw [hE] at CE
      have j1 : (0 : Int) ≤ (k : Int) := by omega
      clear hX hE hxs hkL
      go_wp2_with (first
        | (go_at_call 47; refine (CE.out _).mono ?_; rintro e w1 ⟨rfl, hb1⟩; have HS1 := Lib.hid (HR.out.1.call hb1); have HB1 := Lib.hid (thenB HR.out.2 hb1); clear hb1)
        | (at_builtin; refine wpList_append_own _ rfl (.tmp 12) (.tmp 15) 39 rfl w.heap.size 9 i0 (.string ⟨#[]⟩) 1 16 Tryd.underlying39 hi0 hz0 hz1 hz2 rfl (by decide) _ k (strV (escs (L.take k))) rfl ((show World.ownsRow _ _ _ _ _ k _ by have h := HS1.out; unfold StrL at h; rw [escs_len, List.length_take, HN.out, Nat.min_eq_left (by omega)] at h; exact h).alloc _) _ 1 1 [.string E] rfl rfl (cells_at (by simp) _ _) (by simp [Value.oneCell']) (by unfold maxLen; omega) (by omega) (by have := HB1.out.size; simp; omega) ?_; intro v3 w3 hown hgrow _))
      obtain ⟨g3, c3, hv3, _, _⟩ := hown.form (by omega)
      subst hv3
      have HB3 := Lib.hid ((HB1.out.alloc HB1.out.size _).grown hgrow (by have := HB1.out.size; simp; omega) (fun q hq => (HS1.out.lt q hq).1))
      have HO3 : Hid (StrL w3 w.heap.size (.slice (some ⟨g3, 0, none⟩) (k + 1) c3) (escs (L.take (k + 1)))) := Lib.hid (by unfold StrL; rw [escs_len, List.length_take, HN.out, Nat.min_eq_left (by omega), HX.out, strV_snoc, HE.out]; exact hown)
      clear hown hgrow
      go_wp2_with fail
      go_roundw
      case rel => exact ⟨some ⟨g3, 0, none⟩, k + 1, c3, rfl, by go_num, by omega, Lib.hid ⟨HO3.out, HB3.out⟩⟩
      case measure => simp [intOf]; omega
    · obtain rfl : k = n := by omega
      have HF : Hid (StrL wA w.heap.size (.slice ob k cap2) (escs L)) := Lib.hid (by have h := HR.out.1; rw [List.take_of_length_le (by rw [HN.out]; exact Nat.le_refl _)] at h; exact h)
      go_wp2_with (go_at_call 48; refine (CJ.out _ _ _ HF.out).mono ?_; rintro e w1 ⟨rfl, hb1⟩; have HB1 := Lib.hid (thenB HR.out.2 hb1); clear hb1)
      go_ret
      exact ⟨rfl, HB1.out⟩
theorem joinO_zero (L : List ByteArray) (h : 0 < L.length) : joinO (L.take 1) = escL (L.getD 0 ⟨#[]⟩).data.toList := by
  unfold joinO
  rw [escs_snoc L 0 h]
  simp [escs, lists, Lib.join_one]
theorem joinO_snoc (L : List ByteArray) (k : Nat) (h0 : 0 < k) (h : k < L.length) : joinO (L.take (k + 1)) = joinO (L.take k) ++ ([44] ++ escL (L.getD k ⟨#[]⟩).data.toList) := by
  unfold joinO
  rw [escs_snoc L k h, join_snoc]
  intro e
  have h1 : (escs (L.take k)).length = 0 := by rw [e]; rfl
  rw [escs_len, List.length_take] at h1
  omega
theorem plainJoin_any (oa : Option Addr) (L : List ByteArray) (n cap : Nat) (w : World) (hn : L.length = n) (hR : StrsR w oa L) (hn5 : n ≤ 512) (ht : totN L ≤ 1048576) :
    Calls Tryd.prog 14 #[.slice oa n cap] w fun e w' => e = .returned (.string ⟨(joinO L).toArray⟩) ∧ Below w.heap.size w w' := by
  have c := join_any oa L n cap w hn hR hn5 ht
  generalize (⟨(joinO L).toArray⟩ : ByteArray) = R at c ⊢
  go_enter Tryd.func14, Tryd.ntmps14
  go_wp2_with (go_at_call 30; refine c.mono ?_; rintro e w' ⟨rfl, hb⟩)
  go_ret
  exact ⟨rfl, hb⟩
/-- What plain.TextItems answers. -/
def PIt (R : IRes) (w : World) (e : Ending) (w' : World) : Prop :=
  Below w.heap.size w w' ∧ match R with
    | .ok L => ∃ v, e = .returned (.tuple #[v, .int .i64 0, .int .i64 (-1)]) ∧ StrL w' w.heap.size v L
    | .bad k => e = .returned (.tuple #[.slice none 0 0, .int .i64 5, .int .i64 (k : Int)])
set_option maxHeartbeats 4000000 in
theorem plainItems_any (s : ByteArray) (w : World) (hT : ErrT w) (hs : s.size ≤ 4194304) :
    Calls Tryd.prog 13 #[.string s] w (PIt (itemsF s.data.toList 0 [] []) w) := by
  have C := Lib.hid (items_any s w hs)
  obtain ⟨R, hR⟩ : ∃ R, itemsF s.data.toList 0 [] [] = R := ⟨_, rfl⟩
  rw [hR] at C ⊢
  clear hR
  have HT := Lib.hid hT
  clear hT
  cases R with
  | ok L =>
    go_enter Tryd.func13, Tryd.ntmps13
    go_wp2_with (first
      | (go_at_call 29; refine C.out.mono ?_; rintro e w1 ⟨hb1, v1, rfl, h1⟩; have HB1 := Lib.hid hb1; have H1 := Lib.hid h1; have HT1 := Lib.hid (HT.out.call hb1); clear hb1 h1)
      | (go_at_call 18; refine (tell_nil _).mono ?_; rintro e w2 ⟨rfl, hb2⟩; have HB2 := Lib.hid (thenB HB1.out hb2); have H2 := Lib.hid (H1.out.call hb2); clear hb2)
      | (go_at_call 23; refine (where_nil _).mono ?_; rintro e w3 ⟨rfl, hb3⟩; have HB3 := Lib.hid (thenB HB2.out hb3); have H3 := Lib.hid (H2.out.call hb3); clear hb3))
    refine bodyPost_ret (v := .tuple #[v1, .int .i64 0, .int .i64 (-1)]) (by simp [results, Tryd.results13, go_sem]) rfl ?_
    exact ⟨HB3.out, _, rfl, H3.out⟩
  | bad k =>
    go_enter Tryd.func13, Tryd.ntmps13
    go_wp2_with (first
      | (go_at_call 29; refine C.out.mono ?_; rintro e w1 ⟨hb1, g, rfl, hg0, hg1, c0, c1⟩; have HB1 := Lib.hid hb1; have HC0 := Lib.hid c0; have HC1 := Lib.hid c1; have HT1 := Lib.hid (HT.out.call hb1); clear hb1 c0 c1)
      | (go_at_call 18; refine (tell_at ⟨g, 0, none⟩ 5 _ HT1.out HC0.out).mono ?_; rintro e w2 ⟨rfl, hb2⟩; have HB2 := Lib.hid (thenB HB1.out hb2); have HT2 := Lib.hid (HT1.out.call hb2); have HC2 := Lib.hid ((hb2.cell (p := ⟨g, 1, none⟩) hg1).trans HC1.out); clear hb2)
      | (go_at_call 23; refine (where_at g 0 (k : Int) _ HT2.out HC2.out).mono ?_; rintro e w3 ⟨rfl, hb3⟩; have HB3 := Lib.hid (thenB HB2.out hb3); clear hb3))
    refine bodyPost_ret (v := .tuple #[.slice none 0 0, .int .i64 5, .int .i64 (k : Int)]) (by simp [results, Tryd.results13, go_sem]) rfl ?_
    exact ⟨HB3.out, rfl⟩
theorem itemsF_len (s : List UInt8) (i : Nat) (acc : List (List UInt8)) (cur : List UInt8) (L : List (List UInt8)) (h : itemsF s i acc cur = .ok L) : L.length ≤ acc.length + s.length + 1 := by
  fun_induction itemsF s i acc cur
  all_goals simp_all
  all_goals first | omega | (subst_vars; simp)
/-- What both answer: the list, its error and its place. -/
def rE : IRes → Int
  | .ok _ => 0
  | .bad _ => 5
def rK : IRes → Int
  | .ok _ => -1
  | .bad k => (k : Int)
def rL : IRes → List (List UInt8)
  | .ok l => l
  | .bad _ => []
theorem PIt.form {R : IRes} {w : World} {e : Ending} {w' : World} (h : PIt R w e w') : Below w.heap.size w w' ∧ ∃ v, e = .returned (.tuple #[v, .int .i64 (rE R), .int .i64 (rK R)]) ∧ StrL w' w.heap.size v (rL R) := by
  cases R with
  | ok L => exact h
  | bad k => exact ⟨h.1, _, h.2, World.ownsRow_nil _ _ _ _⟩
end Go.Proofs.YtidgahnamdhflaaDoor
