/- clean; the document's controls, has. -/
import Derived.Test.YtidgahnamdhflaaDoorPrtB
namespace Go.Proofs.YtidgahnamdhflaaDoor
open Go.RowKit Go.Shelf Fld Prt
def okQ (q : List UInt8) (c : UInt8) : Bool := !ctl c && !q.contains c
theorem ib_any (q : ByteArray) (c : UInt8) : ∃ x : Int, decide (0 ≤ x) = q.data.toList.contains c ∧ ∀ w, Calls Tryd.prog 46 #[.string q, .int .u8 (c.toNat : Int)] w fun e w' => e = .returned (.int .i64 x) ∧ w = w' := by
  refine ⟨Lib.indexByte q.data.toList c, (Lib.contains_iff_indexByte q.data.toList c).symm, fun w => ?_⟩
  refine (Any.strings_IndexByte layIB q (c.toNat : Int) w).mono ?_
  rintro e w' ⟨rfl, rfl⟩
  exact ⟨by simp, rfl⟩
set_option maxRecDepth 100000 in
set_option maxHeartbeats 4000000 in
theorem clean_any (s q : ByteArray) (w : World) (hs : s.size ≤ 1099511627776) :
    Calls Tryd.prog 74 #[.string s, .string q] w fun e w' => e = .returned (.bool (s.data.toList.all (okQ q.data.toList))) ∧ w = w' := by
  have HL : Hid (s.data.toList.all (okQ q.data.toList) = (s.data.toList.drop 0).all (okQ q.data.toList)) := Lib.hid (by rw [List.drop_zero])
  obtain ⟨B, hB⟩ : ∃ B, s.data.toList.all (okQ q.data.toList) = B := ⟨_, rfl⟩
  rw [hB] at HL ⊢
  clear hB
  go_enter Tryd.func74, Tryd.ntmps74
  go_wp2
  go_loop [9] (fun c => ∃ k : Nat, c = .int .i64 (k : Int) ∧ k ≤ s.size ∧ Hid (B = (s.data.toList.drop k).all (okQ q.data.toList))) (fun c => s.size - (intOf c).toNat)
  case atStart => exact ⟨0, rfl, by omega, HL⟩
  case round =>
    obtain ⟨k, rfl, hk, HK⟩ := hrel
    clear HL
    by_cases hks : k < s.size
    · have HX := Lib.hid (all_drop (okQ q.data.toList) s k hks)
      obtain ⟨x, hxc, ci⟩ := ib_any q s[k]
      have CI := Lib.hid ci
      clear ci
      by_cases h1 : s[k].toNat < 32
      · have d1 : decide ((s[k].toNat : Int) < 32) = true := decide_eq_true (by omega)
        by_cases h2 : s[k] = 9
        · have b1 := byte_lit (s := s) (i := k) (h := hks) h2 9 rfl
          have b2 := byte_not (v := 127) (s := s) (i := k) (h := hks) (by rw [h2]; decide) 127 rfl
          have b3 : ((s[k].toNat : Int) != 9) = false := by rw [bne, b1]; rfl
          have hcl : ctl s[k] = false := by rw [h2]; rfl
          clear h2
          cases hin : q.data.toList.contains s[k] with
          | true =>
            have hx : (0 : Int) ≤ x := of_decide_eq_true (hxc.trans hin)
            clear hxc
            have HF : Hid (B = false) := Lib.hid (by rw [HK.out, HX.out]; unfold okQ; rw [hin]; simp)
            clear hcl hin
            go_wp2_with (go_at_call 46; refine (CI.out _).mono ?_; rintro e w' ⟨rfl, rfl⟩)
            go_ret
            exact ⟨by rw [HF.out]; rfl, rfl⟩
          | false =>
            have hx : ¬ (0 : Int) ≤ x := of_decide_eq_false (hxc.trans hin)
            clear hxc
            have HO : Hid (okQ q.data.toList s[k] = true) := Lib.hid (by unfold okQ; rw [hcl, hin]; rfl)
            clear hcl hin
            go_wp2_with (go_at_call 46; refine (CI.out _).mono ?_; rintro e w' ⟨rfl, rfl⟩)
            go_round
            case rel => exact ⟨k + 1, by go_num, by omega, Lib.hid (by rw [HK.out, HX.out, HO.out, Bool.true_and])⟩
            case measure => simp [intOf]; omega
        · have b1 := byte_not (s := s) (i := k) (h := hks) h2 9 rfl
          have b3 : ((s[k].toNat : Int) != 9) = true := by rw [bne, b1]; rfl
          have hcl : ctl s[k] = true := by unfold ctl; simp [h1, h2]
          have hin : True := trivial
          clear h2 hxc
          have HF : Hid (B = false) := Lib.hid (by rw [HK.out, HX.out]; unfold okQ; rw [hcl]; simp)
          clear hcl hin
          go_wp2_with (go_at_call 46; refine (CI.out _).mono ?_; rintro e w' ⟨rfl, rfl⟩)
          go_ret
          exact ⟨by rw [HF.out]; rfl, rfl⟩
      · have d1 : decide ((s[k].toNat : Int) < 32) = false := decide_eq_false (by omega)
        by_cases h2 : s[k] = 127
        · have b1 := byte_lit (s := s) (i := k) (h := hks) h2 127 rfl
          have hcl : ctl s[k] = true := by rw [h2]; rfl
          have hin : True := trivial
          clear h2 hxc
          have HF : Hid (B = false) := Lib.hid (by rw [HK.out, HX.out]; unfold okQ; rw [hcl]; simp)
          clear hcl hin
          go_wp2_with (go_at_call 46; refine (CI.out _).mono ?_; rintro e w' ⟨rfl, rfl⟩)
          go_ret
          exact ⟨by rw [HF.out]; rfl, rfl⟩
        · have b1 := byte_not (s := s) (i := k) (h := hks) h2 127 rfl
          have hcl : ctl s[k] = false := by unfold ctl; simp [h1, h2]
          clear h2
          cases hin : q.data.toList.contains s[k] with
          | true =>
            have hx : (0 : Int) ≤ x := of_decide_eq_true (hxc.trans hin)
            clear hxc
            have HF : Hid (B = false) := Lib.hid (by rw [HK.out, HX.out]; unfold okQ; rw [hin]; simp)
            clear hcl hin
            go_wp2_with (go_at_call 46; refine (CI.out _).mono ?_; rintro e w' ⟨rfl, rfl⟩)
            go_ret
            exact ⟨by rw [HF.out]; rfl, rfl⟩
          | false =>
            have hx : ¬ (0 : Int) ≤ x := of_decide_eq_false (hxc.trans hin)
            clear hxc
            have HO : Hid (okQ q.data.toList s[k] = true) := Lib.hid (by unfold okQ; rw [hcl, hin]; rfl)
            clear hcl hin
            go_wp2_with (go_at_call 46; refine (CI.out _).mono ?_; rintro e w' ⟨rfl, rfl⟩)
            go_round
            case rel => exact ⟨k + 1, by go_num, by omega, Lib.hid (by rw [HK.out, HX.out, HO.out, Bool.true_and])⟩
            case measure => simp [intOf]; omega
    · obtain rfl : k = s.size := by omega
      have HE : Hid (B = true) := Lib.hid (by rw [HK.out, all_end _ s s.size (Nat.le_refl _)])
      go_wp2
      go_ret
      exact ⟨by rw [HE.out]; rfl, rfl⟩
theorem any_drop (p : UInt8 → Bool) (s : ByteArray) (k : Nat) (hk : k < s.size) : (s.data.toList.drop k).any p = (p s[k] || (s.data.toList.drop (k + 1)).any p) := by
  rw [List.drop_eq_getElem_cons (by rw [len_eq]; exact hk)]
  rfl
theorem any_end (p : UInt8 → Bool) (s : ByteArray) (k : Nat) (hk : s.size ≤ k) : (s.data.toList.drop k).any p = false := by
  rw [List.drop_of_length_le (by rw [len_eq]; exact hk)]; rfl
set_option maxRecDepth 100000 in
set_option maxHeartbeats 4000000 in
theorem controls_any (s : ByteArray) (w : World) (hs : s.size ≤ 1099511627776) :
    Calls Tryd.prog 38 #[.string s] w fun e w' => e = .returned (.bool (s.data.toList.any ctl)) ∧ w = w' := by
  have HL : Hid (s.data.toList.any ctl = (s.data.toList.drop 0).any ctl) := Lib.hid (by rw [List.drop_zero])
  obtain ⟨B, hB⟩ : ∃ B, s.data.toList.any ctl = B := ⟨_, rfl⟩
  rw [hB] at HL ⊢
  clear hB
  go_enter Tryd.func38, Tryd.ntmps38
  go_wp2
  go_loop [3] (fun c => ∃ k : Nat, c = .int .i64 (k : Int) ∧ k ≤ s.size ∧ Hid (B = (s.data.toList.drop k).any ctl)) (fun c => s.size - (intOf c).toNat)
  case atStart => exact ⟨0, rfl, by omega, HL⟩
  case round =>
    obtain ⟨k, rfl, hk, HK⟩ := hrel
    clear HL
    by_cases hks : k < s.size
    · have HX := Lib.hid (any_drop ctl s k hks)
      by_cases h1 : s[k].toNat < 32
      · have d1 : decide ((s[k].toNat : Int) < 32) = true := decide_eq_true (by omega)
        by_cases h2 : s[k] = 9
        · have b1 := byte_lit (s := s) (i := k) (h := hks) h2 9 rfl
          have b2 := byte_not (v := 127) (s := s) (i := k) (h := hks) (by rw [h2]; decide) 127 rfl
          have b3 : ((s[k].toNat : Int) != 9) = false := by rw [bne, b1]; rfl
          have hcl : ctl s[k] = false := by rw [h2]; rfl
          clear h2
          have HO := Lib.hid hcl
          clear hcl
          go_wp2
          go_round
          case rel => exact ⟨k + 1, by go_num, by omega, Lib.hid (by rw [HK.out, HX.out, HO.out, Bool.false_or])⟩
          case measure => simp [intOf]; omega
        · have b1 := byte_not (s := s) (i := k) (h := hks) h2 9 rfl
          have b3 : ((s[k].toNat : Int) != 9) = true := by rw [bne, b1]; rfl
          have hcl : ctl s[k] = true := by unfold ctl; simp [h1, h2]
          clear h2
          have HF : Hid (B = true) := Lib.hid (by rw [HK.out, HX.out, hcl, Bool.true_or])
          clear hcl
          go_wp2
          go_ret
          exact ⟨by rw [HF.out]; rfl, rfl⟩
      · have d1 : decide ((s[k].toNat : Int) < 32) = false := decide_eq_false (by omega)
        by_cases h2 : s[k] = 127
        · have b1 := byte_lit (s := s) (i := k) (h := hks) h2 127 rfl
          have hcl : ctl s[k] = true := by rw [h2]; rfl
          clear h2
          have HF : Hid (B = true) := Lib.hid (by rw [HK.out, HX.out, hcl, Bool.true_or])
          clear hcl
          go_wp2
          go_ret
          exact ⟨by rw [HF.out]; rfl, rfl⟩
        · have b1 := byte_not (s := s) (i := k) (h := hks) h2 127 rfl
          have hcl : ctl s[k] = false := by unfold ctl; simp [h1, h2]
          clear h2
          have HO := Lib.hid hcl
          clear hcl
          go_wp2
          go_round
          case rel => exact ⟨k + 1, by go_num, by omega, Lib.hid (by rw [HK.out, HX.out, HO.out, Bool.false_or])⟩
          case measure => simp [intOf]; omega
    · obtain rfl : k = s.size := by omega
      have HE : Hid (B = false) := Lib.hid (by rw [HK.out, any_end _ s s.size (Nat.le_refl _)])
      go_wp2
      go_ret
      exact ⟨by rw [HE.out]; rfl, rfl⟩
set_option maxRecDepth 100000 in
set_option maxHeartbeats 4000000 in
theorem has_any (s : ByteArray) (c : UInt8) (w : World) (hs : s.size ≤ 1099511627776) :
    Calls Tryd.prog 35 #[.string s, .string ⟨#[c]⟩] w fun e w' => e = .returned (.bool (s.data.toList.any (· == c))) ∧ w = w' := by
  have HL : Hid (s.data.toList.any (· == c) = (s.data.toList.drop 0).any (· == c)) := Lib.hid (by rw [List.drop_zero])
  obtain ⟨B, hB⟩ : ∃ B, s.data.toList.any (· == c) = B := ⟨_, rfl⟩
  rw [hB] at HL ⊢
  clear hB
  have hc1 : (⟨#[c]⟩ : ByteArray).size = 1 := rfl
  go_enter Tryd.func35, Tryd.ntmps35
  go_wp2
  go_loop [5] (fun u => ∃ k : Nat, u = .int .i64 (k : Int) ∧ k ≤ s.size ∧ Hid (B = (s.data.toList.drop k).any (· == c))) (fun u => s.size - (intOf u).toNat)
  case atStart => exact ⟨0, rfl, by omega, HL⟩
  case round =>
    obtain ⟨k, rfl, hk, HK⟩ := hrel
    clear HL
    have q1 : (0 : Int) ≤ (k : Int) + 1 := by omega
    have q2 : ((k : Int) + 1).toNat = k + 1 := by omega
    have q4 : (k : Int) ≤ (k : Int) + 1 := by omega
    by_cases hks : k < s.size
    · have HX := Lib.hid (any_drop (· == c) s k hks)
      have q3 : (k : Int) + 1 ≤ (s.size : Int) := by omega
      have hx := one_ext s k hks
      obtain ⟨b, hb⟩ : ∃ b, s[k] = b := ⟨_, rfl⟩
      rw [hb] at hx HX
      clear hb
      by_cases he : b = c
      · subst he
        have HF : Hid (B = true) := Lib.hid (by rw [HK.out, HX.out]; simp)
        go_wp2
        go_ret
        exact ⟨by rw [HF.out]; rfl, rfl⟩
      · have m1 : (b == c) = false := by simpa using he
        have HO := Lib.hid m1
        clear he
        go_wp2
        go_round
        case rel => exact ⟨k + 1, by go_num, by omega, Lib.hid (by rw [HK.out, HX.out, HO.out, Bool.false_or])⟩
        case measure => simp [intOf]; omega
    · obtain rfl : k = s.size := by omega
      have q3 : ¬ (s.size : Int) + 1 ≤ (s.size : Int) := by omega
      have HE : Hid (B = false) := Lib.hid (by rw [HK.out, any_end _ s s.size (Nat.le_refl _)])
      go_wp2
      go_ret
      exact ⟨by rw [HE.out]; rfl, rfl⟩
end Go.Proofs.YtidgahnamdhflaaDoor
