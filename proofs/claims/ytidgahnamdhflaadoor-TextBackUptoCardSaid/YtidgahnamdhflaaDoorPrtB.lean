/- name, clean; the document's partName, controls, has. -/
import Derived.Test.YtidgahnamdhflaaDoorPrtA
import Derived.Test.YtidgahnamdhflaaDoorLstB
namespace Go.Proofs.YtidgahnamdhflaaDoor
open Go.RowKit Go.Shelf Fld Prt
theorem trim_empty (s : ByteArray) : ((⟨(Lib.trimS s.data.toList letters).toArray⟩ : ByteArray).toList.isEmpty) = s.data.toList.all okC := by
  have e : (letters.contains ·) = okC := funext letters_ok
  rw [Bool.eq_iff_iff, Lib.toList_data, ← e]
  simpa using trimS_nil s.data.toList letters
theorem letters_ascii : ∀ (j : Nat) b, letters[j]? = some b → b.toNat < 128 := fun j b h => (show ∀ b, b ∈ letters → b.toNat < 128 by decide) b (List.mem_of_getElem? h)
theorem isEmpty_nil {s : ByteArray} (h : s.size = 0) : s = ⟨#[]⟩ := str_eq (List.length_eq_zero_iff.1 (by rw [len_eq]; exact h))
theorem not_empty2 {s : ByteArray} (h : s.size ≠ 0) : s.toList.isEmpty = false := not_empty (fun e => h (by rw [← len_eq, e]; rfl))
set_option maxRecDepth 100000 in
set_option maxHeartbeats 1000000 in
theorem name_any (s : ByteArray) (w : World) (hs : s.size ≤ 9223372036854775807) :
    Calls Tryd.prog 57 #[.string s] w fun e w' => e = .returned (.bool (nameB s.data.toList)) ∧ Below w.heap.size w w' := by
  have c : ∀ w0, Calls Tryd.prog 73 #[.string s, .string ⟨#[65, 66, 67, 68, 69, 70, 71, 72, 73, 74, 75, 76, 77, 78, 79, 80, 81, 82, 83, 84, 85, 86, 87, 88, 89, 90, 48, 49, 50, 51, 52, 53, 54, 55, 56, 57, 45]⟩] w0 fun e w' => e = .returned (.string ⟨(Lib.trimS s.data.toList letters).toArray⟩) ∧ Below w0.heap.size w0 w' := fun w0 => Any.strings_Trim_laid layTr (by kernel_rfl) s ⟨#[65, 66, 67, 68, 69, 70, 71, 72, 73, 74, 75, 76, 77, 78, 79, 80, 81, 82, 83, 84, 85, 86, 87, 88, 89, 90, 48, 49, 50, 51, 52, 53, 54, 55, 56, 57, 45]⟩ w0 hs (by decide) letters_ascii
  have hE := trim_empty s
  obtain ⟨R, hR⟩ : ∃ R : ByteArray, (⟨(Lib.trimS s.data.toList letters).toArray⟩ : ByteArray) = R := ⟨_, rfl⟩
  rw [hR] at hE
  have C := Lib.hid (hR ▸ c)
  clear c hR
  by_cases h0 : s.size = 0
  · obtain rfl := isEmpty_nil h0
    clear C hE h0
    go_enter Tryd.func57, Tryd.ntmps57
    go_wp2
    go_ret
    exact ⟨rfl, Below.refl _ _⟩
  · have hne := not_empty2 h0
    by_cases h40 : s.size ≤ 40
    · cases hB : s.data.toList.all okC with
      | false =>
        rw [hB] at hE
        have HN : Hid (nameB s.data.toList = false) := Lib.hid (by unfold nameB; rw [hB]; simp)
        clear hB
        go_enter Tryd.func57, Tryd.ntmps57
        go_wp2_with (go_at_call 73; refine (C.out _).mono ?_; rintro e w1 ⟨rfl, hb⟩; have HB := Lib.hid hb; clear hb)
        go_ret
        exact ⟨by rw [HN.out]; rfl, HB.out⟩
      | true =>
        rw [hB] at hE
        have HN : Hid (nameB s.data.toList = true) := Lib.hid (by unfold nameB; rw [hB, len_eq]; simp; omega)
        clear hB
        go_enter Tryd.func57, Tryd.ntmps57
        go_wp2_with (go_at_call 73; refine (C.out _).mono ?_; rintro e w1 ⟨rfl, hb⟩; have HB := Lib.hid hb; clear hb)
        go_ret
        exact ⟨by rw [HN.out]; rfl, HB.out⟩
    · have HN : Hid (nameB s.data.toList = false) := Lib.hid (by unfold nameB; rw [len_eq, show decide (s.size ≤ 40) = false from decide_eq_false h40]; simp)
      clear C hE
      go_enter Tryd.func57, Tryd.ntmps57
      go_wp2
      go_ret
      exact ⟨by rw [HN.out]; rfl, Below.refl _ _⟩
theorem digit_any (c : UInt8) (w : World) : Calls Tryd.prog 59 #[.int .u8 c.toNat] w fun e w' => e = .returned (.bool (decide (48 ≤ c.toNat) && decide (c.toNat ≤ 57))) ∧ w = w' := by
  obtain ⟨n, hn⟩ : ∃ n, c.toNat = n := ⟨_, rfl⟩
  rw [hn]
  by_cases h1 : 48 ≤ n
  · by_cases h2 : n ≤ 57
    · go_enter Tryd.func59, Tryd.ntmps59
      go_wp2
      go_ret
      exact ⟨by simp [h1, h2]; omega, rfl⟩
    · go_enter Tryd.func59, Tryd.ntmps59
      go_wp2
      go_ret
      exact ⟨by simp [h2]; omega, rfl⟩
  · go_enter Tryd.func59, Tryd.ntmps59
    go_wp2
    go_ret
    exact ⟨by simp, rfl⟩
theorem all_drop (p : UInt8 → Bool) (s : ByteArray) (k : Nat) (hk : k < s.size) : (s.data.toList.drop k).all p = (p s[k] && (s.data.toList.drop (k + 1)).all p) := by
  rw [List.drop_eq_getElem_cons (by rw [len_eq]; exact hk)]
  rfl
theorem all_end (p : UInt8 → Bool) (s : ByteArray) (k : Nat) (hk : s.size ≤ k) : (s.data.toList.drop k).all p = true := by
  rw [List.drop_of_length_le (by rw [len_eq]; exact hk)]; rfl
set_option maxRecDepth 100000 in
set_option maxHeartbeats 2000000 in
theorem partName_any (s : ByteArray) (w : World) (hs : s.size ≤ 9223372036854775807) :
    Calls Tryd.prog 37 #[.string s] w fun e w' => e = .returned (.bool (nameB s.data.toList)) ∧ w = w' := by
  have HL : Hid (nameB s.data.toList = (decide (1 ≤ s.size) && decide (s.size ≤ 40) && (s.data.toList.drop 0).all okC)) := Lib.hid (by unfold nameB; rw [len_eq, List.drop_zero])
  obtain ⟨B, hB⟩ : ∃ B, nameB s.data.toList = B := ⟨_, rfl⟩
  rw [hB] at HL ⊢
  clear hB
  go_enter Tryd.func37, Tryd.ntmps37
  go_wp2
  go_loop [3] (fun c => ∃ k : Nat, c = .int .i64 (k : Int) ∧ k ≤ s.size ∧ Hid (B = (decide (1 ≤ s.size) && decide (s.size ≤ 40) && (s.data.toList.drop k).all okC))) (fun c => s.size - (intOf c).toNat)
  case atStart => exact ⟨0, rfl, by omega, HL⟩
  case round =>
    obtain ⟨k, rfl, hk, HK⟩ := hrel
    clear HL
    by_cases hks : k < s.size
    · have HX := Lib.hid (all_drop okC s k hks)
      have hd := fun w0 => digit_any s[k] w0
      by_cases h1 : 65 ≤ s[k].toNat
      · by_cases h2 : s[k].toNat ≤ 90
        · have HO : Hid (okC s[k] = true) := Lib.hid (by unfold okC; simp [h1, h2])
          have CD := Lib.hid hd
          clear hd
          go_wp2_with (go_at_call 59; refine (CD.out _).mono ?_; rintro e w' ⟨rfl, rfl⟩)
          go_round
          case rel => exact ⟨k + 1, by go_num, by omega, Lib.hid (by rw [HK.out, HX.out, HO.out, Bool.true_and])⟩
          case measure => simp [intOf]; omega
        · have d2 : decide ((s[k].toNat : Int) ≤ 90) = false := decide_eq_false (by omega)
          have h0 : s[k] ≠ 45 := fun e => by rw [e] at h1; exact absurd h1 (by decide)
          have HO : Hid (okC s[k] = false) := Lib.hid (by unfold okC; simp [h0]; omega)
          have h3 := byte_not (v := 45) (s := s) (i := k) (h := hks) h0 45 rfl
          have hq : (decide (48 ≤ s[k].toNat) && decide (s[k].toNat ≤ 57)) = false := by simp; omega
          rw [hq] at hd
          have CD := Lib.hid hd
          clear hd h0 hq
          have HF : Hid (B = false) := Lib.hid (by rw [HK.out, HX.out, HO.out, Bool.false_and, Bool.and_false])
          go_wp2_with (go_at_call 59; refine (CD.out _).mono ?_; rintro e w' ⟨rfl, rfl⟩)
          go_ret
          exact ⟨by rw [HF.out]; rfl, rfl⟩
      · by_cases h2 : 48 ≤ s[k].toNat ∧ s[k].toNat ≤ 57
        · have HO : Hid (okC s[k] = true) := Lib.hid (by unfold okC; simp [h2.1, h2.2])
          have hq : (decide (48 ≤ s[k].toNat) && decide (s[k].toNat ≤ 57)) = true := by simp [h2.1, h2.2]
          rw [hq] at hd
          have CD := Lib.hid hd
          clear hd h2 hq
          go_wp2_with (go_at_call 59; refine (CD.out _).mono ?_; rintro e w' ⟨rfl, rfl⟩)
          go_round
          case rel => exact ⟨k + 1, by go_num, by omega, Lib.hid (by rw [HK.out, HX.out, HO.out, Bool.true_and])⟩
          case measure => simp [intOf]; omega
        · have hq : (decide (48 ≤ s[k].toNat) && decide (s[k].toNat ≤ 57)) = false := by simp; omega
          rw [hq] at hd
          have CD := Lib.hid hd
          clear hd hq
          by_cases h3 : s[k] = 45
          · have HO : Hid (okC s[k] = true) := Lib.hid (by rw [h3]; rfl)
            have h4 := byte_lit (s := s) (i := k) (h := hks) h3 45 rfl
            clear h2 h3
            go_wp2_with (go_at_call 59; refine (CD.out _).mono ?_; rintro e w' ⟨rfl, rfl⟩)
            go_round
            case rel => exact ⟨k + 1, by go_num, by omega, Lib.hid (by rw [HK.out, HX.out, HO.out, Bool.true_and])⟩
            case measure => simp [intOf]; omega
          · have HO : Hid (okC s[k] = false) := Lib.hid (by unfold okC; simp [h3]; omega)
            have h4 := byte_not (s := s) (i := k) (h := hks) h3 45 rfl
            clear h2 h3
            have HF : Hid (B = false) := Lib.hid (by rw [HK.out, HX.out, HO.out, Bool.false_and, Bool.and_false])
            go_wp2_with (go_at_call 59; refine (CD.out _).mono ?_; rintro e w' ⟨rfl, rfl⟩)
            go_ret
            exact ⟨by rw [HF.out]; rfl, rfl⟩
    · obtain rfl : k = s.size := by omega
      have HE : Hid (B = (decide (1 ≤ s.size) && decide (s.size ≤ 40))) := Lib.hid (by rw [HK.out, all_end okC s s.size (Nat.le_refl _), Bool.and_true])
      by_cases h1 : 1 ≤ s.size
      · by_cases h2 : s.size ≤ 40
        · go_wp2
          go_ret
          exact ⟨by rw [HE.out, decide_eq_true h1, decide_eq_true h2]; exact congrArg (fun b => Ending.returned (Value.bool b)) (decide_eq_true (by omega)), rfl⟩
        · go_wp2
          go_ret
          exact ⟨by rw [HE.out, decide_eq_false h2, Bool.and_false]; exact congrArg (fun b => Ending.returned (Value.bool b)) (decide_eq_false (by omega)), rfl⟩
      · go_wp2
        go_ret
        exact ⟨by rw [HE.out, decide_eq_false h1, Bool.false_and]; rfl, rfl⟩
--END partName
end Go.Proofs.YtidgahnamdhflaaDoor
