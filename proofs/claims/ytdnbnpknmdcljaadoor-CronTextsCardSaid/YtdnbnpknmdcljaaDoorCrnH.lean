/- cron.texts, cron.whole. -/
import Derived.Test.YtdnbnpknmdcljaaDoorCrnG
namespace Go.Proofs.YtdnbnpknmdcljaaDoor
open Go.RowKit Go.Shelf
theorem words_snoc (l : List Int) (s : List UInt8) (k : Nat) (h : k < l.length) : wordsL (l.take (k + 1)) s = wordsL (l.take k) s ++ [numL (l.getD k 0) ++ s] := by
  unfold wordsL
  rw [List.take_succ_eq_append_getElem h, List.map_append]
  simp [List.getD, h]
theorem words_len (l : List Int) (s : List UInt8) : (wordsL l s).length = l.length := by simp [wordsL]
theorem dec_small (n : Nat) (h : n < 100) : (Lib.decDigits n).length ≤ 2 := by
  unfold Lib.decDigits
  split
  · simp
  · rw [List.length_append]
    have : n / 10 < 10 := by omega
    unfold Lib.decDigits
    simp [this]
theorem numL_len (n : Int) (h1 : n < 100) : (numL n).length ≤ 2 := dec_small _ (by omega)
set_option maxRecDepth 100000 in
set_option maxHeartbeats 4000000 in
theorem texts_any (v : Value) (l : List Int) (s : ByteArray) (w : World) (h : IntS w v l) (hl : l.length ≤ 1000) (hr : ∀ k, k < l.length → 0 ≤ l.getD k 0 ∧ l.getD k 0 < 100) (hs : s.size ≤ 10) :
    Calls Tryd.prog 17 #[v, .string s] w fun e w' => ∃ v', e = .returned v' ∧ StrL w' w.heap.size v' (wordsL l s.data.toList) ∧ Below w.heap.size w w' := by
  obtain ⟨i0, hi0, hz0, hz1, hz2⟩ := info_parts str_info
  obtain ⟨oa, cap, rfl, -, -⟩ := id h
  obtain ⟨n, hn⟩ : ∃ n, l.length = n := ⟨_, rfl⟩
  rw [hn] at h hl ⊢
  have H := Lib.hid h
  have HN := Lib.hid hn
  have HRG := Lib.hid hr
  clear h hn hr
  go_enter Tryd.func17, Tryd.ntmps17
  go_wp2_with fail
  go_loopw [5, 10] (fun v c wr => ∃ (ob : Option Addr) (k cap2 : Nat), v = .slice ob k cap2 ∧ c = .int .i64 (k : Int) ∧ k ≤ n ∧ Hid (StrL wr w.heap.size (.slice ob k cap2) (wordsL (l.take k) s.data.toList)) ∧ Hid (Below w.heap.size w wr)) (fun _ c _ => n - (intOf c).toNat)
  case atStart => exact ⟨none, 0, 0, rfl, rfl, by omega, Lib.hid (World.ownsRow_nil _ _ _ _), Lib.hid (Below.refl _ _)⟩
  case round =>
    obtain ⟨ob, k, cap2, rfl, rfl, hk, HS, HB⟩ := hrel
    obtain ⟨wA, rfl⟩ : ∃ wo : World, wo = wr := ⟨_, rfl⟩
    by_cases hkn : k < n
    · have hkl : k < l.length := by rw [HN.out]; exact hkn
      obtain ⟨ad, rfl, hc⟩ := (H.out.call HB.out).at hkl
      obtain ⟨hx0, hx1⟩ := HRG.out k hkl
      have HX := Lib.hid (words_snoc l s.data.toList k hkl)
      obtain ⟨x, hx⟩ : ∃ x, l.getD k 0 = x := ⟨_, rfl⟩
      rw [hx] at hc hx0 hx1 HX
      have hnl := numL_len x hx1
      obtain ⟨M, hM⟩ : ∃ M : ByteArray, (⟨(numL x).toArray⟩ : ByteArray) = M := ⟨_, rfl⟩
      have hMl : M.data.toList = numL x := by rw [← hM]
      have hMs : M.size ≤ 2 := by rw [Lib.size_eq, hMl]; exact hnl
      have CI : Hid (∀ w0, Calls Tryd.prog 13 #[.int .i64 x] w0 fun e w' => e = .returned (.string M) ∧ w0 = w') := Lib.hid fun w0 => hM ▸ itoa_any x w0 hx0 hx1
      have HW : Hid ((⟨(numL x ++ s.data.toList).toArray⟩ : ByteArray) = M ++ s) := Lib.hid (by
        have e : (M ++ s).data.toList = numL x ++ s.data.toList := by rw [ByteArray.data_append, Array.toList_append, hMl]
        rw [← e])
      have HBZ := Lib.hid HB.out.size
      clear hx hM hMl hnl hkl
      go_wp2_with (first
        | (go_at_call 13; refine (CI.out _).mono ?_; rintro e w' ⟨rfl, rfl⟩)
        | (at_builtin; refine wpList_append_own _ rfl (.tmp 14) (.tmp 19) 45 rfl w.heap.size 9 i0 (.string ⟨#[]⟩) 1 16 Tryd.underlying45 hi0 hz0 hz1 hz2 rfl (by decide) _ k (strV (wordsL (l.take k) s.data.toList)) rfl ((show World.ownsRow _ _ _ _ _ k _ by have h := HS.out; unfold StrL at h; rw [words_len, List.length_take, HN.out, Nat.min_eq_left (by omega)] at h; exact h).alloc _) _ 1 1 [.string (M ++ s)] rfl rfl (cells_at (by simp) _ _) (by simp [Value.oneCell']) (by unfold maxLen; omega) (by omega) (by have := HBZ.out; simp; omega) ?_; intro v3 w3 hown hgrow _))
      obtain ⟨g3, c3, hv3, _, _⟩ := hown.form (by omega)
      subst hv3
      have HB3 := Lib.hid ((HB.out.alloc HBZ.out _).grown hgrow (by have := HBZ.out; simp; omega) (fun q hq => (HS.out.lt q hq).1))
      have HO3 : Hid (StrL w3 w.heap.size (.slice (some ⟨g3, 0, none⟩) (k + 1) c3) (wordsL (l.take (k + 1)) s.data.toList)) := Lib.hid (by unfold StrL; rw [words_len, List.length_take, HN.out, Nat.min_eq_left (by omega), HX.out, strV_snoc, HW.out]; exact hown)
      clear hown hgrow
      go_wp2_with fail
      go_roundw
      case rel => exact ⟨some ⟨g3, 0, none⟩, k + 1, c3, rfl, by go_num, by omega, HO3, HB3⟩
      case measure => simp [intOf]; omega
    · obtain rfl : k = n := by omega
      have HF : Hid (StrL wA w.heap.size (.slice ob k cap2) (wordsL l s.data.toList)) := Lib.hid (by have h := HS.out; rw [List.take_of_length_le (by rw [HN.out]; exact Nat.le_refl _)] at h; exact h)
      go_wp2_with fail
      go_ret
      exact ⟨_, rfl, HF.out, HB.out⟩
end Go.Proofs.YtdnbnpknmdcljaaDoor
