/- The document's Cuts. -/
import Derived.Test.YtidgahnamdhflaaDoorFldF
namespace Go.Proofs.YtidgahnamdhflaaDoor
open Go.RowKit Go.Shelf Fld
theorem seg_cut (l : List UInt8) (f i : Nat) (hf : f ≤ i) (hi : i < l.length) : l.drop f = (l.drop f).take (i - f) ++ l[i] :: l.drop (i + 1) := by
  have e := List.take_append_drop (i - f) (l.drop f)
  rw [List.drop_drop, show f + (i - f) = i by omega, List.drop_eq_getElem_cons hi] at e
  exact e.symm
theorem seg_next (l : List UInt8) (f i : Nat) (hf : f ≤ i) (hi : i < l.length) : (l.drop f).take (i + 1 - f) = (l.drop f).take (i - f) ++ [l[i]] := by
  rw [show i + 1 - f = (i - f) + 1 by omega, List.take_succ_eq_append_getElem (by rw [List.length_drop]; omega)]
  simp [show f + (i - f) = i by omega]
theorem ext_mid (s : ByteArray) (f i : Nat) : (s.extract f i).data.toList = (s.data.toList.drop f).take (i - f) := Lib.extract_data s f i
theorem get_list (s : ByteArray) (i : Nat) (h : i < s.size) : s.data.toList[i]'(by rw [len_eq]; exact h) = s[i] := rfl
set_option maxRecDepth 100000 in
set_option maxHeartbeats 8000000 in
theorem cuts_any (s : ByteArray) (c : UInt8) (C : Int) (hC : C = (c.toNat : Int)) (w : World) (hs : s.size ≤ 1048576) :
    Calls Tryd.prog 41 #[.string s, .int .u8 C] w (TxtR (splitC c s.data.toList) w) := by
  obtain ⟨i0, hi0, hz0, hz1, hz2⟩ := info_parts str_info
  have HC := Lib.hid hC
  clear hC
  go_enter Tryd.func41, Tryd.ntmps41
  go_wp2
  go_loopw [5, 6, 7] (fun v x y wr => ∃ (oa : Option Addr) (n cap f i : Nat) (acc : List (List UInt8)), v = .slice oa n cap ∧ x = .int .i64 (f : Int) ∧ y = .int .i64 (i : Int) ∧ f ≤ i ∧ i ≤ s.size ∧ n ≤ i ∧ Hid (acc.length = n ∧ wr.ownsRow w.heap.size 9 1 (.slice oa n cap) n (strV acc) ∧ Below w.heap.size w wr ∧ acc ++ splitC c (s.data.toList.drop f) = splitC c s.data.toList ∧ c ∉ (s.data.toList.drop f).take (i - f))) (fun _ _ y _ => s.size - (intOf y).toNat)
  case atStart => exact ⟨none, 0, 0, 0, 0, [], rfl, rfl, rfl, by omega, by omega, by omega, Lib.hid ⟨rfl, World.ownsRow_nil _ _ _ _, Below.refl _ _, by simp, by simp⟩⟩
  case round =>
    obtain ⟨oa, n, cap, f, i, acc, rfl, rfl, rfl, hf, his, hn, HR⟩ := hrel
    obtain ⟨wA, rfl⟩ : ∃ wo : World, wo = wr := ⟨_, rfl⟩
    by_cases hi : i < s.size
    · by_cases hb : s[i] = c
      · have hX : Hid (acc ++ [(s.extract f i).data.toList] ++ splitC c (s.data.toList.drop (i + 1)) = splitC c s.data.toList) := by
          refine Lib.hid ?_
          have h := HR.out.2.2.2.1
          rw [seg_cut _ f i hf (by rw [len_eq]; exact hi), get_list s i hi, hb, splitC_hit c _ _ HR.out.2.2.2.2, ← ext_mid] at h
          rw [List.append_assoc]
          exact h
        have hbt : ((s[i].toNat : Int) == C) = true := by rw [hb, HC.out]; simp
        clear hb
        go_wp2_with (at_builtin; refine wpList_append_own _ rfl (.tmp 19) (.tmp 24) 39 rfl w.heap.size 9 i0 (.string ⟨#[]⟩) 1 16 Tryd.underlying39 hi0 hz0 hz1 hz2 rfl (by decide) _ n (strV acc) rfl (HR.out.2.1.alloc _) _ 1 1 [.string (s.extract f i)] rfl rfl (cells_at (by simp) _ _) (by simp [Value.oneCell']) (by unfold maxLen; omega) (by omega) (by have := HR.out.2.2.1.size; simp; omega) ?_; intro v3 w3 hown hgrow _)
        obtain ⟨g3, c3, hv3, _, _⟩ := hown.form (by omega)
        subst hv3
        have HB3 := Lib.hid ((HR.out.2.2.1.alloc HR.out.2.2.1.size _).grown hgrow (by have := HR.out.2.2.1.size; simp; omega) (fun k hk => (HR.out.2.1.lt k hk).1))
        have HO3 : Hid (w3.ownsRow w.heap.size 9 1 (.slice (some ⟨g3, 0, none⟩) (n + 1) c3) (n + 1) (strV (acc ++ [(s.extract f i).data.toList]))) := Lib.hid (by rw [strV_snoc]; exact hown)
        have HL3 : Hid ((acc ++ [(s.extract f i).data.toList]).length = n + 1) := Lib.hid (by rw [List.length_append, HR.out.1]; rfl)
        clear hown hgrow
        go_wp2_with fail
        go_roundw
        case rel => exact ⟨some ⟨g3, 0, none⟩, n + 1, c3, i + 1, i + 1, _, rfl, by go_num, by go_num, by omega, by omega, by omega, Lib.hid ⟨HL3.out, HO3.out, HB3.out, hX.out, by simp⟩⟩
        case measure => simp [intOf]; omega
      · have hbt : ((s[i].toNat : Int) == C) = false := by
          rw [HC.out]
          simpa using fun h : (s[i].toNat : Int) = c.toNat => hb (UInt8.toNat_inj.1 (by omega))
        have hX : Hid (c ∉ (s.data.toList.drop f).take (i + 1 - f)) := by
          refine Lib.hid ?_
          rw [seg_next _ f i hf (by rw [len_eq]; exact hi), get_list s i hi]
          simp only [List.mem_append, not_or, List.mem_singleton]
          exact ⟨HR.out.2.2.2.2, fun e => hb e.symm⟩
        clear hb
        go_wp2_with fail
        go_roundw
        case rel => exact ⟨oa, n, cap, f, i + 1, _, rfl, rfl, by go_num, by omega, by omega, by omega, Lib.hid ⟨HR.out.1, HR.out.2.1, HR.out.2.2.1, HR.out.2.2.2.1, hX.out⟩⟩
        case measure => simp [intOf]; omega
    · obtain rfl : i = s.size := by omega
      have hX : Hid (acc ++ [(s.extract f s.size).data.toList] = splitC c s.data.toList) := by
        refine Lib.hid ?_
        obtain ⟨-, -, -, h, h2⟩ := HR.out
        rw [List.take_of_length_le (by rw [List.length_drop, len_eq]; omega)] at h2
        rw [splitC_none c _ h2] at h
        rw [ext_from]
        exact h
      go_wp2_with (at_builtin; refine wpList_append_own _ rfl (.tmp 28) (.tmp 32) 39 rfl w.heap.size 9 i0 (.string ⟨#[]⟩) 1 16 Tryd.underlying39 hi0 hz0 hz1 hz2 rfl (by decide) _ n (strV acc) rfl (HR.out.2.1.alloc _) _ 1 1 [.string (s.extract f s.size)] rfl rfl (cells_at (by simp) _ _) (by simp [Value.oneCell']) (by unfold maxLen; omega) (by omega) (by have := HR.out.2.2.1.size; simp; omega) ?_; intro v3 w3 hown hgrow _)
      have HB3 := Lib.hid ((HR.out.2.2.1.alloc HR.out.2.2.1.size _).grown hgrow (by have := HR.out.2.2.1.size; simp; omega) (fun k hk => (HR.out.2.1.lt k hk).1))
      have HO3 : Hid (StrL w3 w.heap.size v3 (splitC c s.data.toList)) := Lib.hid (by rw [← hX.out]; unfold StrL; rw [strV_snoc, List.length_append, HR.out.1]; exact hown)
      clear hown hgrow
      go_wp2_with fail
      go_ret
      exact ⟨_, rfl, HO3.out, HB3.out⟩
end Go.Proofs.YtidgahnamdhflaaDoor
