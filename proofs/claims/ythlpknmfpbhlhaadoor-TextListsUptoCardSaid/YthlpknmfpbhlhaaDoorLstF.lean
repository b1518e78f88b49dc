/- A list of texts that came in; text.Join and the document's JoinList. -/
import Derived.Test.YthlpknmfpbhlhaaDoorLstE
namespace Go.Proofs.YthlpknmfpbhlhaaDoor
open Go.RowKit Go.Shelf Fld
theorem add_block (a : Addr) (k : Nat) : (a.add k).block = a.block := by unfold Addr.add; split <;> rfl
/-- A []string that came in. -/
def StrsR (w : World) (oa : Option Addr) (L : List ByteArray) : Prop :=
  (0 < L.length → ∃ a, oa = some a) ∧ ∀ a, oa = some a → (0 < L.length → a.block < w.heap.size) ∧ ∀ i, i < L.length → w.cell? (a.add i) = some (.string (L.getD i ⟨#[]⟩))
theorem StrsR.call {w w' : World} {oa : Option Addr} {L : List ByteArray} (h : StrsR w oa L) (hb : Below w.heap.size w w') : StrsR w' oa L := by
  refine ⟨h.1, fun a ha => ⟨fun h0 => Nat.lt_of_lt_of_le ((h.2 a ha).1 h0) hb.size, fun i hi => ?_⟩⟩
  exact (hb.cell (p := a.add i) (by rw [add_block]; exact (h.2 a ha).1 (by omega))).trans ((h.2 a ha).2 i hi)
def lists (L : List ByteArray) : List (List UInt8) := L.map (·.data.toList)
def totN (L : List ByteArray) : Nat := (lists L).flatten.length
theorem totN_at (L : List ByteArray) (i : Nat) : (L.getD i ⟨#[]⟩).size ≤ totN L := by
  unfold totN lists
  induction L generalizing i with
  | nil => simp [List.getD]; rfl
  | cons x L ih =>
    simp only [List.map_cons, List.flatten_cons, List.length_append]
    cases i with
    | zero => simp [List.getD]
    | succ i => have := ih i; simp [List.getD] at this ⊢; omega
def escs (L : List ByteArray) : List (List UInt8) := (lists L).map escL
theorem escs_snoc (L : List ByteArray) (k : Nat) (h : k < L.length) : escs (L.take (k + 1)) = escs (L.take k) ++ [escL (L.getD k ⟨#[]⟩).data.toList] := by
  unfold escs lists
  rw [List.take_succ_eq_append_getElem h, List.map_append, List.map_append]
  simp [List.getD, h]
theorem escs_len (L : List ByteArray) : (escs L).length = L.length := by simp [escs, lists]
theorem flat_take (L : List ByteArray) (k : Nat) : totN (L.take k) ≤ totN L := by
  unfold totN lists
  rw [List.map_take]
  exact take_flat _ k
theorem escs_flat (L : List ByteArray) : (escs L).flatten.length ≤ 2 * totN L := by
  unfold escs totN
  induction lists L with
  | nil => simp
  | cons a l ih =>
    have := escL_len a
    simp only [List.map_cons, List.flatten_cons, List.length_append] at ih ⊢
    omega
def joinO (L : List ByteArray) : List UInt8 := Lib.join (escs L) [44]
theorem joinO_len (L : List ByteArray) : (joinO L).length ≤ 2 * totN L + L.length := by
  have h1 := join_len (escs L)
  have h2 := escs_flat L
  rw [escs_len] at h1
  unfold joinO
  omega
theorem bxJ : Builder.Extra Tryd.prog layJn_ren := { sizeBuilder := by kernel_rfl, liesBuilder := by kernel_rfl, t5 := Tryd.underlying5, a5 := Tryd.isAgg5, z5 := Tryd.sizeOf5, v5 := Tryd.zeroValue5, infoByte := by kernel_rfl, cellsByte := by kernel_rfl, sizeByte := by kernel_rfl, neB5 := by decide }
theorem joined (L : List ByteArray) (v : Value) (b : Nat) (w : World) (h : StrL w b v (escs L)) (hn : L.length ≤ 512) (ht : totN L ≤ 1048576) :
    Calls Tryd.prog 23 #[v, .string ⟨#[44]⟩] w fun e w' => e = .returned (.string ⟨(joinO L).toArray⟩) ∧ Below w.heap.size w w' := by
  obtain ⟨oa, cap, rfl⟩ := h.form
  have hcap := slice_cap h
  rw [escs_len] at h hcap ⊢
  rcases Nat.eq_zero_or_pos L.length with h0 | h0
  · obtain rfl := List.eq_nil_of_length_eq_zero h0
    refine (Any.strings_Join_none layJn bxJ oa cap ⟨#[44]⟩ w).mono ?_
    rintro e w' ⟨rfl, rfl⟩
    exact ⟨rfl, Below.refl _ _⟩
  · obtain ⟨g, rfl, -, hgz, -, -⟩ := StrL.at (k := 0) h (by rw [escs_len]; exact h0)
    have hx : (((escs L).map (fun x => (⟨x.toArray⟩ : ByteArray))).map (·.data.toList)) = escs L := by rw [List.map_map]; exact (List.map_congr_left (g := id) fun x _ => rfl).trans (List.map_id _)
    have hl : ((escs L).map (fun x => (⟨x.toArray⟩ : ByteArray))).length = L.length := by simp [escs_len]
    have hj := joinO_len L
    have c := Any.strings_Join layJn bxJ g 0 cap ((escs L).map (fun x => (⟨x.toArray⟩ : ByteArray))) ⟨#[44]⟩ w ?_ hgz (by omega) (by omega) (by rw [hx]; show (joinO L).length ≤ _; omega)
    · rw [hx, hl] at c
      exact c
    · intro j x hjx
      rw [List.getElem?_map] at hjx
      obtain ⟨y, hy, rfl⟩ := Option.map_eq_some_iff.1 hjx
      obtain ⟨hj1, rfl⟩ := List.getElem?_eq_some_iff.1 hy
      obtain ⟨g', e, -, -, hc, -⟩ := StrL.at h hj1
      cases e
      rw [Nat.zero_add, hc]
      simp [List.getD, hj1]
set_option maxRecDepth 100000 in
set_option maxHeartbeats 8000000 in
theorem join_any (oa : Option Addr) (L : List ByteArray) (n cap : Nat) (w : World) (hn : L.length = n) (hR : StrsR w oa L) (hn5 : n ≤ 512) (ht : totN L ≤ 1048576) :
    Calls Tryd.prog 16 #[.slice oa n cap] w fun e w' => e = .returned (.string ⟨(joinO L).toArray⟩) ∧ Below w.heap.size w w' := by
  obtain ⟨i0, hi0, hz0, hz1, hz2⟩ := info_parts str_info
  have HRR := Lib.hid hR
  have HN := Lib.hid hn
  have HT := Lib.hid ht
  have CJ : Hid (∀ (v : Value) (b : Nat) (w0 : World), StrL w0 b v (escs L) → Calls Tryd.prog 23 #[v, .string ⟨#[44]⟩] w0 fun e w' => e = .returned (.string ⟨(joinO L).toArray⟩) ∧ Below w0.heap.size w0 w') := Lib.hid fun v b w0 h => joined L v b w0 h (by omega) ht
  obtain ⟨RJ, hRJ⟩ : ∃ R : ByteArray, (⟨(joinO L).toArray⟩ : ByteArray) = R := ⟨_, rfl⟩
  rw [hRJ] at CJ ⊢
  clear hR hn ht hRJ
  go_enter Tryd.func16, Tryd.ntmps16
  go_wp2_with fail
  go_loopw [3, 8] (fun v c wr => ∃ (ob : Option Addr) (k cap2 : Nat), v = .slice ob k cap2 ∧ c = .int .i64 (k : Int) ∧ k ≤ n ∧ Hid (StrL wr w.heap.size (.slice ob k cap2) (escs (L.take k)) ∧ Below w.heap.size w wr)) (fun _ c _ => n - (intOf c).toNat)
  case atStart => exact ⟨none, 0, 0, rfl, rfl, by omega, Lib.hid ⟨World.ownsRow_nil _ _ _ _, Below.refl _ _⟩⟩
  case round =>
    obtain ⟨ob, k, cap2, rfl, rfl, hk, HR⟩ := hrel
    obtain ⟨wA, rfl⟩ : ∃ wo : World, wo = wr := ⟨_, rfl⟩
    have HSZ := Lib.hid HR.out.2.size
    by_cases hkn : k < n
    · have hkL : k < L.length := by rw [HN.out]; exact hkn
      obtain ⟨a, rfl⟩ := HRR.out.1 (by omega)
      have hc := ((HRR.out.call HR.out.2).2 a rfl).2 k hkL
      have HX := Lib.hid (escs_snoc L k hkL)
      have hxs := totN_at L k
      obtain ⟨X, hX⟩ : ∃ X, L.getD k ⟨#[]⟩ = X := ⟨_, rfl⟩
      rw [hX] at hc HX hxs
      have CE : Hid (∀ w0, Calls Tryd.prog 15 #[.string X] w0 fun e w' => e = .returned (.string ⟨(escL X.data.toList).toArray⟩) ∧ Below w0.heap.size w0 w') := Lib.hid fun w0 => escape_any X w0 (by have := HT.out; omega)
      obtain ⟨E, hE⟩ : ∃ E : ByteArray, (⟨(escL X.data.toList).toArray⟩ : ByteArray) = E := ⟨_, rfl⟩
      have HE := Lib.hid hE
      rw [hE] at CE
      have j1 : (0 : Int) ≤ (k : Int) := by omega
      clear hX hE hxs hkL
      go_wp2_with (first
        | (go_at_call 15; refine (CE.out _).mono ?_; rintro e w1 ⟨rfl, hb1⟩; have HS1 := Lib.hid (HR.out.1.call hb1); have HB1 := Lib.hid (thenB HR.out.2 hb1); clear hb1)
        | (at_builtin; refine wpList_append_own _ rfl (.tmp 12) (.tmp 15) 22 rfl w.heap.size 9 i0 (.string ⟨#[]⟩) 1 16 Tryd.underlying22 hi0 hz0 hz1 hz2 rfl (by decide) _ k (strV (escs (L.take k))) rfl ((show World.ownsRow _ _ _ _ _ k _ by have h := HS1.out; unfold StrL at h; rw [escs_len, List.length_take, HN.out, Nat.min_eq_left (by omega)] at h; exact h).alloc _) _ 1 1 [.string E] rfl rfl (cells_at (by simp) _ _) (by simp [Value.oneCell']) (by unfold maxLen; omega) (by omega) (by have := HB1.out.size; simp; omega) ?_; intro v3 w3 hown hgrow _))
      obtain ⟨g3, c3, hv3, _, _⟩ := hown.form (by omega)
      subst hv3
      have HB3 := Lib.hid ((HB1.out.alloc HB1.out.size _).grown hgrow (by have := HB1.out.size; simp; omega) (fun q hq => (HS1.out.lt q hq).1))
      have HO3 : Hid (StrL w3 w.heap.size (.slice (some ⟨g3, 0, none⟩) (k + 1) c3) (escs (L.take (k + 1)))) := Lib.hid (by unfold StrL; rw [escs_len, List.length_take, HN.out, Nat.min_eq_left (by omega), HX.out, strV_snoc, HE.out]; exact hown)
      clear hown hgrow
      go_wp2_with fail
      go_roundw
      case rel => exact ⟨some ⟨g3, 0, none⟩, k + 1, c3, rfl, by go_num, by omega, Lib.hid ⟨HO3.out, HB3.out⟩⟩
      case measure => simp [intOf]; omega
    · obtain rfl : k = n := by omega
      have HF : Hid (StrL wA w.heap.size (.slice ob k cap2) (escs L)) := Lib.hid (by have h := HR.out.1; rw [List.take_of_length_le (by rw [HN.out]; exact Nat.le_refl _)] at h; exact h)
      go_wp2_with (go_at_call 23; refine (CJ.out _ _ _ HF.out).mono ?_; rintro e w1 ⟨rfl, hb1⟩; have HB1 := Lib.hid (thenB HR.out.2 hb1); clear hb1)
      go_ret
      exact ⟨rfl, HB1.out⟩
theorem joinO_zero (L : List ByteArray) (h : 0 < L.length) : joinO (L.take 1) = escL (L.getD 0 ⟨#[]⟩).data.toList := by
  unfold joinO
  rw [escs_snoc L 0 h]
  simp [escs, lists, Lib.join_one]
theorem joinO_snoc (L : List ByteArray) (k : Nat) (h0 : 0 < k) (h : k < L.length) : joinO (L.take (k + 1)) = joinO (L.take k) ++ ([44] ++ escL (L.getD k ⟨#[]⟩).data.toList) := by
  unfold joinO
  rw [escs_snoc L k h, join_snoc]
  intro e
  have h1 : (escs (L.take k)).length = 0 := by rw [e]; rfl
  rw [escs_len, List.length_take] at h1
  omega
set_option maxRecDepth 100000 in
set_option maxHeartbeats 8000000 in
theorem rjoin_any (oa : Option Addr) (L : List ByteArray) (n cap : Nat) (w : World) (hn : L.length = n) (hR : StrsR w oa L) (hn5 : n ≤ 512) (ht : totN L ≤ 1048576) :
    Calls Tryd.prog 9 #[.slice oa n cap] w fun e w' => e = .returned (.string ⟨(joinO L).toArray⟩) ∧ w' = w := by
  have HRR := Lib.hid hR
  have HN := Lib.hid hn
  have HT := Lib.hid ht
  have HJ0 : Hid (joinO [] = []) := Lib.hid rfl
  clear hR hn ht
  go_enter Tryd.func9, Tryd.ntmps9
  go_wp2_with fail
  go_loop [3, 4] (fun o c => ∃ (k : Nat) (O : ByteArray), o = .string O ∧ c = .int .i64 (k : Int) ∧ k ≤ n ∧ Hid (O.data.toList = joinO (L.take k))) (fun _ c => n - (intOf c).toNat)
  case atStart => exact ⟨0, ⟨#[]⟩, rfl, rfl, by omega, Lib.hid (by rw [List.take_zero]; exact HJ0.out.symm)⟩
  case round =>
    obtain ⟨k, O, rfl, rfl, hk, HR⟩ := hrel
    have hO : O.size ≤ 2098000 := by have h1 := joinO_len (L.take k); have h2 := flat_take L k; have h3 := HT.out; have h4 := HN.out; rw [← HR.out, len_eq, List.length_take] at h1; omega
    by_cases hkn : k < n
    · have hkL : k < L.length := by rw [HN.out]; exact hkn
      obtain ⟨a, rfl⟩ := HRR.out.1 (by omega)
      have hc := (HRR.out.2 a rfl).2 k hkL
      have hxs := totN_at L k
      obtain ⟨X, hX⟩ : ∃ X, L.getD k ⟨#[]⟩ = X := ⟨_, rfl⟩
      have hel := escL_len X.data.toList
      rw [len_eq] at hel
      rw [hX] at hxs
      have CE : Hid (∀ w0, Calls Tryd.prog 7 #[.string X] w0 fun e w' => e = .returned (.string ⟨(escL X.data.toList).toArray⟩) ∧ w0 = w') := Lib.hid fun w0 => (rescape_any X w0 (by have := HT.out; omega)).mono fun e w' h => ⟨h.1, h.2.symm⟩
      obtain ⟨E, hE⟩ : ∃ E : ByteArray, (⟨(escL X.data.toList).toArray⟩ : ByteArray) = E := ⟨_, rfl⟩
      have hEl : E.data.toList = escL X.data.toList := by rw [← hE]
      have hEs : E.size ≤ 2098000 := by have h1 := HT.out; rw [← hEl, len_eq] at hel; omega
      rw [hE] at CE
      have HEL := Lib.hid hEl
      have HX := Lib.hid hX
      rw [hX] at hc
      have j1 : (0 : Int) ≤ (k : Int) := by omega
      clear hX hE hxs hEl hel
      by_cases h0 : 0 < k
      · have HS := Lib.hid (joinO_snoc L k h0 hkL)
        have hcs : (O ++ (⟨#[44]⟩ : ByteArray)).size = O.size + 1 := by rw [ByteArray.size_append]; rfl
        have HOO : Hid (((O ++ (⟨#[44]⟩ : ByteArray)) ++ E).data.toList = joinO (L.take (k + 1))) := Lib.hid (by rw [HS.out, HX.out, ByteArray.data_append, ByteArray.data_append, Array.toList_append, Array.toList_append, HR.out, HEL.out, List.append_assoc])
        obtain ⟨O2, hO2⟩ : ∃ O2, O ++ (⟨#[44]⟩ : ByteArray) = O2 := ⟨_, rfl⟩
        rw [hO2] at hcs HOO
        clear hkL
        go_wp2_with (go_at_call 7; refine (CE.out _).mono ?_; rintro e w' ⟨rfl, rfl⟩)
        go_round
        case rel => exact ⟨k + 1, _, rfl, by go_num, by omega, HOO⟩
        case measure => simp [intOf]; omega
      · obtain rfl : k = 0 := by omega
        have HS := Lib.hid (joinO_zero L hkL)
        have HOO : Hid ((O ++ E).data.toList = joinO (L.take (0 + 1))) := Lib.hid (by rw [HS.out, HX.out, ByteArray.data_append, Array.toList_append, HR.out, HEL.out, List.take_zero, HJ0.out, List.nil_append])
        have hc0 : w.cell? a = some (.string X) := by have h := hc; simp only [Addr.add, Nat.add_zero] at h; exact h
        clear hkL hc
        go_wp2_with (go_at_call 7; refine (CE.out _).mono ?_; rintro e w' ⟨rfl, rfl⟩)
        go_round
        case rel => exact ⟨0 + 1, _, rfl, by go_num, by omega, HOO⟩
        case measure => simp [intOf]; omega
    · obtain rfl : k = n := by omega
      have HF : Hid ((⟨(joinO L).toArray⟩ : ByteArray) = O) := Lib.hid (str_eq (by have h := HR.out; rw [List.take_of_length_le (by rw [HN.out]; exact Nat.le_refl _)] at h; exact h)).symm
      go_wp2_with fail
      go_ret
      exact ⟨by rw [HF.out]; rfl, rfl⟩
end Go.Proofs.YthlpknmfpbhlhaaDoor
