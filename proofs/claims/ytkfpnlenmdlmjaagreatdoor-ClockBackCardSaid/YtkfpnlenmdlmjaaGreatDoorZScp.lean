/- The calls on a place in a text: the program's scan, the document's in. Printed by a program of mine. -/
import Derived.Test.YtkfpnlenmdlmjaaGreatDoorZG2
import Derived.IntWalk
import Derived.Lib.Strings
namespace Go.Proofs.YtkfpnlenmdlmjaaGreatDoor
open Go.RowKit Scm
theorem lenT (s : ByteArray) : s.data.toList.length = s.size := (Lib.size_eq s).symm
/-- Does the byte stand there? -/
def isB (s : ByteArray) (k : Nat) (c : UInt8) : Bool := s.data.toList[k]? == some c
theorem isB_yes {s : ByteArray} {k : Nat} {c : UInt8} (h : k < s.size) (hc : s[k] = c) : isB s k c = true := by
  unfold isB; rw [List.getElem?_eq_getElem (by rw [lenT]; exact h)]; show (some s[k] == some c) = true; simpa using hc
theorem isB_no {s : ByteArray} {k : Nat} {c : UInt8} (h : k < s.size) (hc : s[k] ≠ c) : isB s k c = false := by
  unfold isB; rw [List.getElem?_eq_getElem (by rw [lenT]; exact h)]; show (some s[k] == some c) = false; simpa using hc
theorem isB_end {s : ByteArray} {k : Nat} {c : UInt8} (h : ¬ k < s.size) : isB s k c = false := by
  unfold isB; rw [List.getElem?_eq_none (by rw [lenT]; omega)]; rfl
theorem isB_iff {s : ByteArray} {k : Nat} {c : UInt8} : isB s k c = true ↔ s.data.toList[k]? = some c := by unfold isB; simp
theorem isB_lt {s : ByteArray} {k : Nat} {c : UInt8} (h : isB s k c = true) : k < s.size := by
  rcases Nat.lt_or_ge k s.size with h1 | h1
  · exact h1
  · rw [isB_end (by omega)] at h; cases h
/-- Where it goes on. -/
def isK (s : ByteArray) (k : Nat) (c : UInt8) : Nat := if isB s k c = true then k + 1 else k
theorem isK_yes {s : ByteArray} {k : Nat} {c : UInt8} (h : isB s k c = true) : isK s k c = k + 1 := if_pos h
theorem isK_no {s : ByteArray} {k : Nat} {c : UInt8} (h : isB s k c = false) : isK s k c = k := if_neg (by simp [h])
theorem isK_le {s : ByteArray} {k : Nat} {c : UInt8} (h : k ≤ s.size) : isK s k c ≤ s.size := by
  rcases hb : isB s k c with _ | _
  · rw [isK_no hb]; exact h
  · rw [isK_yes hb]; exact isB_lt hb
theorem byte_eq (a b : UInt8) : ((a.toNat : Int) == (b.toNat : Int)) = (a == b) := by
  rw [Bool.eq_iff_iff]; simp [← UInt8.toNat_inj]; omega
def run_ (s : ByteArray) (k : Nat) : Nat := runL s.data.toList k
theorem run_end {s : ByteArray} {k : Nat} (h : ¬ k < s.size) : run_ s k = 0 := runL_end (by rw [lenT]; omega)
theorem run_yes {s : ByteArray} {k : Nat} (h : k < s.size) (hd : dig s[k] = true) : run_ s k = run_ s (k + 1) + 1 := runL_yes (l := s.data.toList) (by rw [lenT]; exact h) hd
theorem run_no {s : ByteArray} {k : Nat} (h : k < s.size) (hd : dig s[k] = false) : run_ s k = 0 := runL_no (l := s.data.toList) (by rw [lenT]; exact h) hd
theorem run_le (s : ByteArray) (k : Nat) (h : k ≤ s.size) : k + run_ s k ≤ s.size := by have := runL_le s.data.toList k (by rw [lenT]; exact h); rw [lenT] at this; exact this
theorem run_at {s : ByteArray} {k j : Nat} (h : j < run_ s k) : ∃ h : k + j < s.size, dig s[k + j] = true := by
  obtain ⟨h1, h2⟩ := runL_at (l := s.data.toList) (k := k) (j := j) h
  exact ⟨by rw [lenT] at h1; exact h1, h2⟩
theorem run_stop {s : ByteArray} {k : Nat} (h : k + run_ s k < s.size) : dig s[k + run_ s k] = false := runL_stop (l := s.data.toList) (by rw [lenT]; exact h)
def num_ (s : ByteArray) (k n : Nat) : Nat := numF s.data.toList k n
theorem num_succ {s : ByteArray} {k n : Nat} (h : k + n < s.size) : num_ s k (n + 1) = 10 * num_ s k n + (s[k + n].toNat - 48) := by
  show 10 * num_ s k n + ((s.data.toList.getD (k + n) 0).toNat - 48) = _
  rw [List.getD, List.getElem?_eq_getElem (by rw [lenT]; exact h)]; rfl
theorem num_lt {s : ByteArray} {k n : Nat} (h : n ≤ run_ s k) : num_ s k n < 10 ^ n := numF_lt h
set_option maxRecDepth 100000 in
set_option maxHeartbeats 2000000 in
theorem cis_any (b : Nat) (s : ByteArray) (k : Nat) (c : UInt8) (w : World) (h : ScanAt b s k w) (hs : s.size ≤ 9223372036854775807) :
    Calls Tryz.prog 42 #[.pointer (some ⟨b, 0, none⟩), .int .u8 (c.toNat : Int)] w (ScPost b s w (.bool (isB s k c)) (isK s k c : Nat)) := by
  have H := Lib.hid h
  obtain ⟨hb, h0, h1, hf⟩ := h
  have HB := Lib.hid hb
  have hcl := c.toNat_lt
  obtain ⟨C, hC⟩ : ∃ C, c.toNat = C := ⟨_, rfl⟩
  by_cases hk : k < s.size
  · have hd : decide ((k : Int) < (s.size : Int)) = true := by simpa using hk
    by_cases he : s[k] = c
    · have HI := Lib.hid (isB_yes hk he)
      have hq : ((s[k].toNat : Int) == (C : Int)) = true := by rw [← hC, he]; simp
      have hs1 : IntKind.i64.wrap ((k : Int) + 1) = (k : Int) + 1 := IntWalk.i64_in _ (by omega)
      rw [hC]
      clear hC he hcl hs
      go_enter Tryz.func42, Tryz.ntmps42
      go_wp2_with fail
      go_quiet (fail)
      go_wp2_with fail
      go_ret
      refine ⟨by rw [HI.out]; rfl, ?_, ?_⟩
      · rw [isK_yes HI.out]; exact (H.out.drewN _).set _
      · exact ((Only.refl b w).drewN _).setCell 1 _
    · have HI := Lib.hid (isB_no hk he)
      have hq : ((s[k].toNat : Int) == (C : Int)) = false := by rw [← hC, byte_eq]; simpa using he
      rw [hC]
      clear hC he hcl hs
      go_enter Tryz.func42, Tryz.ntmps42
      go_wp2_with fail
      go_quiet (fail)
      go_wp2_with fail
      go_ret
      refine ⟨by rw [HI.out]; rfl, ?_, ?_⟩
      · rw [isK_no HI.out]; exact H.out.drewN _
      · exact (Only.refl b w).drewN _
  · have hd : decide ((k : Int) < (s.size : Int)) = false := by simpa using hk
    have HI := Lib.hid (isB_end (c := c) hk)
    rw [hC]
    clear hC hcl hs
    go_enter Tryz.func42, Tryz.ntmps42
    go_wp2_with fail
    go_quiet (fail)
    go_wp2_with fail
    go_ret
    refine ⟨by rw [HI.out]; rfl, ?_, ?_⟩
    · rw [isK_no HI.out]; exact H.out.drewN _
    · exact (Only.refl b w).drewN _
set_option maxRecDepth 100000 in
set_option maxHeartbeats 2000000 in
theorem ris_any (b : Nat) (s : ByteArray) (k : Nat) (c : UInt8) (w : World) (h : ScanAt b s k w) (hs : s.size ≤ 9223372036854775807) :
    Calls Tryz.prog 23 #[.pointer (some ⟨b, 0, none⟩), .int .u8 (c.toNat : Int)] w (ScPost b s w (.bool (isB s k c)) (isK s k c : Nat)) := by
  have H := Lib.hid h
  obtain ⟨hb, h0, h1, hf⟩ := h
  have HB := Lib.hid hb
  have hcl := c.toNat_lt
  obtain ⟨C, hC⟩ : ∃ C, c.toNat = C := ⟨_, rfl⟩
  by_cases hk : k < s.size
  · have hd : decide ((k : Int) < (s.size : Int)) = true := by simpa using hk
    by_cases he : s[k] = c
    · have HI := Lib.hid (isB_yes hk he)
      have hq : ((s[k].toNat : Int) == (C : Int)) = true := by rw [← hC, he]; simp
      have hs1 : IntKind.i64.wrap ((k : Int) + 1) = (k : Int) + 1 := IntWalk.i64_in _ (by omega)
      rw [hC]
      clear hC he hcl hs
      go_enter Tryz.func23, Tryz.ntmps23
      go_wp2_with fail
      go_quiet (fail)
      go_wp2_with fail
      go_ret
      refine ⟨by rw [HI.out]; rfl, ?_, ?_⟩
      · rw [isK_yes HI.out]; exact (H.out.drewN _).set _
      · exact ((Only.refl b w).drewN _).setCell 1 _
    · have HI := Lib.hid (isB_no hk he)
      have hq : ((s[k].toNat : Int) == (C : Int)) = false := by rw [← hC, byte_eq]; simpa using he
      rw [hC]
      clear hC he hcl hs
      go_enter Tryz.func23, Tryz.ntmps23
      go_wp2_with fail
      go_quiet (fail)
      go_wp2_with fail
      go_ret
      refine ⟨by rw [HI.out]; rfl, ?_, ?_⟩
      · rw [isK_no HI.out]; exact H.out.drewN _
      · exact (Only.refl b w).drewN _
  · have hd : decide ((k : Int) < (s.size : Int)) = false := by simpa using hk
    have HI := Lib.hid (isB_end (c := c) hk)
    rw [hC]
    clear hC hcl hs
    go_enter Tryz.func23, Tryz.ntmps23
    go_wp2_with fail
    go_quiet (fail)
    go_wp2_with fail
    go_ret
    refine ⟨by rw [HI.out]; rfl, ?_, ?_⟩
    · rw [isK_no HI.out]; exact H.out.drewN _
    · exact (Only.refl b w).drewN _
theorem digit_any (c : UInt8) (w : World) : Calls Tryz.prog 87 #[.int .u8 c.toNat] w fun e w' => e = .returned (.bool (dig c)) ∧ w' = w := by
  by_cases h48 : 48 ≤ c.toNat
  · by_cases h57 : c.toNat ≤ 57
    · have HD := Lib.hid (dig_ok h48 h57)
      have q1 : decide ((48 : Int) ≤ (c.toNat : Int)) = true := by rw [decide_eq_true_eq]; omega
      have q2 : decide ((c.toNat : Int) ≤ 57) = true := by rw [decide_eq_true_eq]; omega
      go_enter Tryz.func87, Tryz.ntmps87
      go_wp2_with fail
      go_ret
      exact ⟨by rw [HD.out]; rfl, rfl⟩
    · have HD := Lib.hid (dig_hi h57)
      have q1 : decide ((48 : Int) ≤ (c.toNat : Int)) = true := by rw [decide_eq_true_eq]; omega
      have q2 : decide ((c.toNat : Int) ≤ 57) = false := by rw [decide_eq_false_iff_not]; omega
      go_enter Tryz.func87, Tryz.ntmps87
      go_wp2_with fail
      go_ret
      exact ⟨by rw [HD.out]; rfl, rfl⟩
  · have HD := Lib.hid (dig_lo h48)
    have q1 : decide ((48 : Int) ≤ (c.toNat : Int)) = false := by rw [decide_eq_false_iff_not]; omega
    go_enter Tryz.func87, Tryz.ntmps87
    go_wp2_with fail
    go_ret
    exact ⟨by rw [HD.out]; rfl, rfl⟩
set_option maxRecDepth 100000 in
set_option maxHeartbeats 2000000 in
theorem crun_any (b : Nat) (s : ByteArray) (k : Nat) (w : World) (h : ScanAt b s k w) (hk : k ≤ s.size) (hs : s.size ≤ 9223372036854775807) :
    Calls Tryz.prog 80 #[.pointer (some ⟨b, 0, none⟩)] w fun e w' => e = .returned (.int .i64 (run_ s k : Nat)) ∧ ∃ m, w' = w.drewN m := by
  obtain ⟨hb, h0, h1, hf⟩ := h
  go_enter Tryz.func80, Tryz.ntmps80
  go_wp2_with fail
  go_loopw [3] (fun c wr => ∃ j : Nat, c = .int .i64 (j : Int) ∧ k + j ≤ s.size ∧ Hid (run_ s k = j + run_ s (k + j)) ∧ ∃ m, wr = w.drewN m) (fun c _ => s.size - (intOf c).toNat)
  case atStart => exact ⟨0, rfl, by omega, Lib.hid (by simp), 0, rfl⟩
  case round =>
    obtain ⟨j, rfl, hj, HR, m, rfl⟩ := hrel
    obtain ⟨wA, hwA⟩ : ∃ wA, w.drewN m = wA := ⟨_, rfl⟩
    have hA0 : wA.cell? ⟨b, 0, none⟩ = some (.string s) := by rw [← hwA]; exact h0
    have hA1 : wA.cell? ⟨b, 1, none⟩ = some (.int .i64 (k : Int)) := by rw [← hwA]; exact h1
    rw [hwA]
    have HW := Lib.hid hwA
    clear hwA
    obtain ⟨p, hp⟩ : ∃ p, k + j = p := ⟨_, rfl⟩
    have hs1 : IntKind.i64.wrap ((k : Int) + (j : Int)) = (p : Int) := by rw [← hp]; exact IntWalk.i64_in _ (by omega)
    have HP := Lib.hid hp
    rw [hp] at HR
    clear hp
    by_cases hlt : p < s.size
    · have hjs : j < s.size := by have := HP.out; omega
      have hd : decide (p < s.size) = true := by rw [decide_eq_true_eq]; exact hlt
      have hd2 : decide ((p : Int) < (s.size : Int)) = true := by rw [decide_eq_true_eq]; omega
      by_cases h48 : 48 ≤ s[p].toNat
      · by_cases h57 : s[p].toNat ≤ 57
        · have hdg := dig_ok h48 h57
          have HN := Lib.hid (run_yes hlt hdg)
          have q1 : decide ((48 : Int) ≤ (s[p].toNat : Int)) = true := by rw [decide_eq_true_eq]; omega
          have q2 : decide ((s[p].toNat : Int) ≤ 57) = true := by rw [decide_eq_true_eq]; omega
          clear h48 h57 hdg
          go_wp2_with fail
          go_quiet (fail)
          go_wp2_with fail
          go_roundw
          case rel => exact ⟨j + 1, by go_num, by have := HP.out; omega, Lib.hid (by rw [HR.out, HN.out, ← HP.out, show k + j + 1 = k + (j + 1) by omega]; omega), _, by rw [← HW.out]; exact World.drewN_drewN _ _ _⟩
          case measure => have := HP.out; simp [intOf]; omega
        · have hdg := dig_hi h57
          have HN := Lib.hid (run_no hlt hdg)
          have q1 : decide ((48 : Int) ≤ (s[p].toNat : Int)) = true := by rw [decide_eq_true_eq]; omega
          have q2 : decide ((s[p].toNat : Int) ≤ 57) = false := by rw [decide_eq_false_iff_not]; omega
          clear h48 h57 hdg
          go_wp2_with fail
          go_quiet (fail)
          go_wp2_with fail
          go_ret
          exact ⟨by rw [HR.out, HN.out]; rfl, _, by rw [← HW.out]; exact World.drewN_drewN _ _ _⟩
      · have hdg := dig_lo h48
        have HN := Lib.hid (run_no hlt hdg)
        have q1 : decide ((48 : Int) ≤ (s[p].toNat : Int)) = false := by rw [decide_eq_false_iff_not]; omega
        clear h48 hdg
        go_wp2_with fail
        go_quiet (fail)
        go_wp2_with fail
        go_ret
        exact ⟨by rw [HR.out, HN.out]; rfl, _, by rw [← HW.out]; exact World.drewN_drewN _ _ _⟩
    · have HN := Lib.hid (run_end hlt)
      have hd : decide (p < s.size) = false := by rw [decide_eq_false_iff_not]; exact hlt
      have hd2 : decide ((p : Int) < (s.size : Int)) = false := by rw [decide_eq_false_iff_not]; omega
      go_wp2_with fail
      go_quiet (fail)
      go_wp2_with fail
      go_ret
      exact ⟨by rw [HR.out, HN.out]; rfl, _, by rw [← HW.out]; exact World.drewN_drewN _ _ _⟩
set_option maxRecDepth 100000 in
set_option maxHeartbeats 2000000 in
theorem rrun_any (b : Nat) (s : ByteArray) (k : Nat) (w : World) (h : ScanAt b s k w) (hk : k ≤ s.size) (hs : s.size ≤ 9223372036854775807) :
    Calls Tryz.prog 51 #[.pointer (some ⟨b, 0, none⟩)] w fun e w' => e = .returned (.int .i64 (run_ s k : Nat)) ∧ ∃ m, w' = w.drewN m := by
  obtain ⟨hb, h0, h1, hf⟩ := h
  go_enter Tryz.func51, Tryz.ntmps51
  go_wp2_with fail
  go_loopw [3] (fun c wr => ∃ j : Nat, c = .int .i64 (j : Int) ∧ k + j ≤ s.size ∧ Hid (run_ s k = j + run_ s (k + j)) ∧ ∃ m, wr = w.drewN m) (fun c _ => s.size - (intOf c).toNat)
  case atStart => exact ⟨0, rfl, by omega, Lib.hid (by simp), 0, rfl⟩
  case round =>
    obtain ⟨j, rfl, hj, HR, m, rfl⟩ := hrel
    obtain ⟨wA, hwA⟩ : ∃ wA, w.drewN m = wA := ⟨_, rfl⟩
    have hA0 : wA.cell? ⟨b, 0, none⟩ = some (.string s) := by rw [← hwA]; exact h0
    have hA1 : wA.cell? ⟨b, 1, none⟩ = some (.int .i64 (k : Int)) := by rw [← hwA]; exact h1
    rw [hwA]
    have HW := Lib.hid hwA
    clear hwA
    obtain ⟨p, hp⟩ : ∃ p, k + j = p := ⟨_, rfl⟩
    have hs1 : IntKind.i64.wrap ((k : Int) + (j : Int)) = (p : Int) := by rw [← hp]; exact IntWalk.i64_in _ (by omega)
    have HP := Lib.hid hp
    rw [hp] at HR
    clear hp
    by_cases hlt : p < s.size
    · have hjs : j < s.size := by have := HP.out; omega
      have hd : decide (p < s.size) = true := by rw [decide_eq_true_eq]; exact hlt
      have hd2 : decide ((p : Int) < (s.size : Int)) = true := by rw [decide_eq_true_eq]; omega
      by_cases h48 : 48 ≤ s[p].toNat
      · by_cases h57 : s[p].toNat ≤ 57
        · have hdg := dig_ok h48 h57
          have HN := Lib.hid (run_yes hlt hdg)
          have q1 : decide ((48 : Int) ≤ (s[p].toNat : Int)) = true := by rw [decide_eq_true_eq]; omega
          have q2 : decide ((s[p].toNat : Int) ≤ 57) = true := by rw [decide_eq_true_eq]; omega
          have CD : Hid (∀ m, Calls Tryz.prog 87 #[.int .u8 s[p].toNat] (wA.drewN m) fun e w' => e = .returned (.bool true) ∧ w' = wA.drewN m) := Lib.hid fun m => by rw [← hdg]; exact digit_any _ _
          clear h48 h57 hdg
          go_wp2_with fail
          go_quiet ((go_at_call 87; exact Calls.quiet_of_same (CD.out _)))
          go_wp2_with fail
          go_roundw
          case rel => exact ⟨j + 1, by go_num, by have := HP.out; omega, Lib.hid (by rw [HR.out, HN.out, ← HP.out, show k + j + 1 = k + (j + 1) by omega]; omega), _, by rw [← HW.out]; exact World.drewN_drewN _ _ _⟩
          case measure => have := HP.out; simp [intOf]; omega
        · have hdg := dig_hi h57
          have HN := Lib.hid (run_no hlt hdg)
          have q1 : decide ((48 : Int) ≤ (s[p].toNat : Int)) = true := by rw [decide_eq_true_eq]; omega
          have q2 : decide ((s[p].toNat : Int) ≤ 57) = false := by rw [decide_eq_false_iff_not]; omega
          have CD : Hid (∀ m, Calls Tryz.prog 87 #[.int .u8 s[p].toNat] (wA.drewN m) fun e w' => e = .returned (.bool false) ∧ w' = wA.drewN m) := Lib.hid fun m => by rw [← hdg]; exact digit_any _ _
          clear h48 h57 hdg
          go_wp2_with fail
          go_quiet ((go_at_call 87; exact Calls.quiet_of_same (CD.out _)))
          go_wp2_with fail
          go_ret
          exact ⟨by rw [HR.out, HN.out]; rfl, _, by rw [← HW.out]; exact World.drewN_drewN _ _ _⟩
      · have hdg := dig_lo h48
        have HN := Lib.hid (run_no hlt hdg)
        have q1 : decide ((48 : Int) ≤ (s[p].toNat : Int)) = false := by rw [decide_eq_false_iff_not]; omega
        have CD : Hid (∀ m, Calls Tryz.prog 87 #[.int .u8 s[p].toNat] (wA.drewN m) fun e w' => e = .returned (.bool false) ∧ w' = wA.drewN m) := Lib.hid fun m => by rw [← hdg]; exact digit_any _ _
        clear h48 hdg
        go_wp2_with fail
        go_quiet ((go_at_call 87; exact Calls.quiet_of_same (CD.out _)))
        go_wp2_with fail
        go_ret
        exact ⟨by rw [HR.out, HN.out]; rfl, _, by rw [← HW.out]; exact World.drewN_drewN _ _ _⟩
    · have HN := Lib.hid (run_end hlt)
      have hd : decide (p < s.size) = false := by rw [decide_eq_false_iff_not]; exact hlt
      have hd2 : decide ((p : Int) < (s.size : Int)) = false := by rw [decide_eq_false_iff_not]; omega
      go_wp2_with fail
      go_quiet (fail)
      go_wp2_with fail
      go_ret
      exact ⟨by rw [HR.out, HN.out]; rfl, _, by rw [← HW.out]; exact World.drewN_drewN _ _ _⟩
end Go.Proofs.YtkfpnlenmdlmjaaGreatDoor
