/- So many digits: the program's digits, the document's take; a fault at a place. Printed by a program of mine. -/
import Derived.Test.YtkfpnlenmdlmjaaGreatDoorZScp
namespace Go.Proofs.YtkfpnlenmdlmjaaGreatDoor
open Go.RowKit Scm
def dgB (s : ByteArray) (k n : Nat) : Bool := decide (n ≤ run_ s k)
def dgN (s : ByteArray) (k n : Nat) : Nat := if n ≤ run_ s k then num_ s k n else 0
def dgK (s : ByteArray) (k n : Nat) : Nat := if n ≤ run_ s k then k + n else k + run_ s k
theorem dg_yes {s : ByteArray} {k n : Nat} (h : n ≤ run_ s k) : dgB s k n = true ∧ dgN s k n = num_ s k n ∧ dgK s k n = k + n := ⟨decide_eq_true h, if_pos h, if_pos h⟩
theorem dg_no {s : ByteArray} {k n : Nat} (h : ¬ n ≤ run_ s k) : dgB s k n = false ∧ dgN s k n = 0 ∧ dgK s k n = k + run_ s k := ⟨decide_eq_false h, if_neg h, if_neg h⟩
theorem dgK_le {s : ByteArray} {k n : Nat} (h : k ≤ s.size) : dgK s k n ≤ s.size := by
  have := run_le s k h
  unfold dgK; split <;> omega
theorem dgN_lt (s : ByteArray) (k n : Nat) : dgN s k n < 10 ^ n := by
  unfold dgN; split
  · exact num_lt ‹_›
  · exact Nat.pow_pos (by omega)
theorem run_in {s : ByteArray} {k j p : Nat} (hp : k + j = p) (hj : j ≤ run_ s k) (h : p < s.size) (hd : dig s[p] = true) : j < run_ s k := by
  subst hp
  rcases Nat.lt_or_ge j (run_ s k) with h1 | h1
  · exact h1
  · obtain rfl : j = run_ s k := by omega
    rw [run_stop h] at hd; cases hd
theorem run_out {s : ByteArray} {k j p : Nat} (hp : k + j = p) (hj : j ≤ run_ s k) (h : p < s.size) (hd : dig s[p] = false) : j = run_ s k := by
  subst hp
  rcases Nat.lt_or_ge j (run_ s k) with h1 | h1
  · obtain ⟨_, h2⟩ := run_at h1
    rw [h2] at hd; cases hd
  · omega
theorem run_off {s : ByteArray} {k j p : Nat} (hp : k + j = p) (hj : j ≤ run_ s k) (hk : k ≤ s.size) (h : ¬ p < s.size) : j = run_ s k := by
  have := run_le s k hk; omega
theorem u8_dig {c : UInt8} (h1 : 48 ≤ c.toNat) (h2 : c.toNat ≤ 57) : IntKind.u8.wrap ((c.toNat : Int) - 48) = ((c.toNat - 48 : Nat) : Int) := by
  simp [IntKind.wrap, IntKind.bits, IntKind.signed]; omega
theorem pow8 {n j : Nat} (h : j < n) (hn : n ≤ 9) : 10 ^ j ≤ 100000000 := by
  have : (10 : Nat) ^ j ≤ 10 ^ 8 := Nat.pow_le_pow_right (by omega) (by omega)
  simpa using this
set_option maxRecDepth 100000 in
set_option maxHeartbeats 4000000 in
theorem digits_any (b : Nat) (s : ByteArray) (k n : Nat) (N : Int) (hN : N = (n : Nat)) (w : World) (h : ScanAt b s k w) (hk : k ≤ s.size) (hs : s.size ≤ 9223372036854775807) (hn : n ≤ 9) :
    Calls Tryz.prog 78 #[.pointer (some ⟨b, 0, none⟩), .int .i64 N] w (ScPost b s w (.tuple #[.int .i64 (dgN s k n : Nat), .bool (dgB s k n)]) (dgK s k n : Nat)) := by
  subst hN
  have H := Lib.hid h
  obtain ⟨hb, h0, h1, hf⟩ := h
  have HK := Lib.hid hk
  go_enter Tryz.func78, Tryz.ntmps78
  go_wp2_with fail
  go_loopw [6, 9] (fun x c wr => ∃ j : Nat, c = .int .i64 (j : Int) ∧ x = .int .i64 ((num_ s k j : Nat) : Int) ∧ j ≤ n ∧ Hid (j ≤ run_ s k) ∧ ∃ m, wr = w.drewN m) (fun _ c _ => n - (intOf c).toNat)
  case atStart => exact ⟨0, rfl, rfl, by omega, Lib.hid (by omega), 0, rfl⟩
  case round =>
    obtain ⟨j, rfl, rfl, hj, HR, m, rfl⟩ := hrel
    obtain ⟨wA, hwA⟩ : ∃ wA, w.drewN m = wA := ⟨_, rfl⟩
    have hA0 : wA.cell? ⟨b, 0, none⟩ = some (.string s) := by rw [← hwA]; exact h0
    have hA1 : wA.cell? ⟨b, 1, none⟩ = some (.int .i64 (k : Int)) := by rw [← hwA]; exact h1
    have hAf : wA.frozen? ⟨b, 1, none⟩ = false := by rw [← hwA]; exact hf
    have HH : Hid (ScanAt b s k wA) := Lib.hid (by rw [← hwA]; exact H.out)
    have HO : Hid (Only b w wA) := Lib.hid (by rw [← hwA]; exact (Only.refl b w).drewN m)
    rw [hwA]
    have HW := Lib.hid hwA
    clear hwA
    obtain ⟨p, hp⟩ : ∃ p, k + j = p := ⟨_, rfl⟩
    have HP := Lib.hid hp
    have hps : p ≤ s.size := by have e := run_le s k HK.out; have e2 := HR.out; omega
    have hs1 : IntKind.i64.wrap ((k : Int) + (j : Int)) = (p : Int) := by rw [← hp]; exact IntWalk.i64_in _ (by omega)
    clear hp
    by_cases hjn : j < n
    · have hjd : decide (j < n) = true := by rw [decide_eq_true_eq]; exact hjn
      have hjd2 : decide ((j : Int) < (n : Int)) = true := by rw [decide_eq_true_eq]; omega
      by_cases hlt : p < s.size
      · have hd : decide (s.size ≤ p) = false := by rw [decide_eq_false_iff_not]; omega
        have hd2 : decide ((s.size : Int) ≤ (p : Int)) = false := by rw [decide_eq_false_iff_not]; omega
        by_cases h48 : 48 ≤ s[p].toNat
        · have q1 : decide ((s[p].toNat : Int) < 48) = false := by rw [decide_eq_false_iff_not]; omega
          by_cases h57 : s[p].toNat ≤ 57
          · have q2 : decide (57 < (s[p].toNat : Int)) = false := by rw [decide_eq_false_iff_not]; omega
            have HD := Lib.hid (run_in HP.out HR.out hlt (dig_ok h48 h57))
            obtain ⟨X, hX⟩ : ∃ X, num_ s k j = X := ⟨_, rfl⟩
            have hXl : X < 10 ^ j := by rw [← hX]; exact num_lt HR.out
            have hXl2 : X ≤ 100000000 := by have := pow8 hjn hn; omega
            obtain ⟨d, hdd⟩ : ∃ d, s[p].toNat - 48 = d := ⟨_, rfl⟩
            have f1 : IntKind.u8.wrap ((s[p].toNat : Int) - 48) = (d : Int) := by rw [← hdd]; exact u8_dig h48 h57
            have f2 : IntKind.i64.wrap (d : Int) = (d : Int) := IntWalk.i64_in _ (by omega)
            obtain ⟨Y, hY⟩ : ∃ Y, 10 * X = Y := ⟨_, rfl⟩
            have f3 : IntKind.i64.wrap (10 * (X : Int)) = (Y : Int) := by rw [← hY]; exact IntWalk.i64_in _ (by omega)
            obtain ⟨Z, hZ⟩ : ∃ Z, Y + d = Z := ⟨_, rfl⟩
            have f4 : IntKind.i64.wrap ((Y : Int) + (d : Int)) = (Z : Int) := by rw [← hZ]; exact IntWalk.i64_in _ (by omega)
            have HZ : Hid (num_ s k (j + 1) = Z) := Lib.hid (by rw [← hZ, ← hY, ← hX, ← hdd]; have e := HP.out; subst e; exact num_succ hlt)
            rw [hX]
            clear hX hXl hdd hY hZ h48 h57 hXl2
            go_wp2_with fail
            go_quiet (fail)
            go_wp2_with fail
            go_quiet (fail)
            go_wp2_with fail
            go_roundw
            case rel => exact ⟨j + 1, by go_num, by rw [HZ.out], by omega, Lib.hid HD.out, _, by rw [← HW.out]; exact World.drewN_drewN _ _ _⟩
            case measure => simp [intOf]; omega
          · have q2 : decide (57 < (s[p].toNat : Int)) = true := by rw [decide_eq_true_eq]; omega
            have HE := Lib.hid (run_out HP.out HR.out hlt (dig_hi h57))
            have HV : Hid (dgB s k n = false ∧ dgN s k n = 0 ∧ dgK s k n = p) := Lib.hid (by have e := dg_no (s := s) (k := k) (n := n) (by rw [← HE.out]; omega); exact ⟨e.1, e.2.1, e.2.2.trans (by rw [← HE.out]; exact HP.out)⟩)
            clear h48 h57
            go_wp2_with fail
            go_quiet (fail)
            go_wp2_with fail
            go_ret2
            exact ⟨by rw [HV.out.1, HV.out.2.1]; rfl, by rw [HV.out.2.2]; exact (HH.out.drewN _).set _, ((HO.out).drewN _).setCell 1 _⟩
        · have q1 : decide ((s[p].toNat : Int) < 48) = true := by rw [decide_eq_true_eq]; omega
          have HE := Lib.hid (run_out HP.out HR.out hlt (dig_lo h48))
          have HV : Hid (dgB s k n = false ∧ dgN s k n = 0 ∧ dgK s k n = p) := Lib.hid (by have e := dg_no (s := s) (k := k) (n := n) (by rw [← HE.out]; omega); exact ⟨e.1, e.2.1, e.2.2.trans (by rw [← HE.out]; exact HP.out)⟩)
          clear h48
          go_wp2_with fail
          go_quiet (fail)
          go_wp2_with fail
          go_ret2
          exact ⟨by rw [HV.out.1, HV.out.2.1]; rfl, by rw [HV.out.2.2]; exact (HH.out.drewN _).set _, ((HO.out).drewN _).setCell 1 _⟩
      · have hd : decide (s.size ≤ p) = true := by rw [decide_eq_true_eq]; omega
        have hd2 : decide ((s.size : Int) ≤ (p : Int)) = true := by rw [decide_eq_true_eq]; omega
        have HE := Lib.hid (run_off HP.out HR.out HK.out hlt)
        have HV : Hid (dgB s k n = false ∧ dgN s k n = 0 ∧ dgK s k n = p) := Lib.hid (by have e := dg_no (s := s) (k := k) (n := n) (by rw [← HE.out]; omega); exact ⟨e.1, e.2.1, e.2.2.trans (by rw [← HE.out]; exact HP.out)⟩)
        go_wp2_with fail
        go_quiet (fail)
        go_wp2_with fail
        go_ret2
        exact ⟨by rw [HV.out.1, HV.out.2.1]; rfl, by rw [HV.out.2.2]; exact (HH.out.drewN _).set _, ((HO.out).drewN _).setCell 1 _⟩
    · obtain rfl : n = j := by omega
      have HV := Lib.hid (dg_yes HR.out)
      have hjd : decide (n < n) = false := by rw [decide_eq_false_iff_not]; omega
      have hjd2 : decide ((n : Int) < (n : Int)) = false := by rw [decide_eq_false_iff_not]; omega

      go_wp2_with fail
      go_ret2
      exact ⟨by rw [HV.out.1, HV.out.2.1]; rfl, by rw [HV.out.2.2, HP.out]; exact HH.out.set _, HO.out.setCell 1 _⟩
set_option maxRecDepth 100000 in
set_option maxHeartbeats 4000000 in
theorem take_any (b : Nat) (s : ByteArray) (k n : Nat) (N : Int) (hN : N = (n : Nat)) (w : World) (h : ScanAt b s k w) (hk : k ≤ s.size) (hs : s.size ≤ 9223372036854775807) (hn : n ≤ 9) :
    Calls Tryz.prog 49 #[.pointer (some ⟨b, 0, none⟩), .int .i64 N] w (ScPost b s w (.tuple #[.int .i64 (dgN s k n : Nat), .bool (dgB s k n)]) (dgK s k n : Nat)) := by
  subst hN
  have H := Lib.hid h
  clear h
  have HK := Lib.hid hk
  go_enter Tryz.func49, Tryz.ntmps49
  go_wp2_with fail
  go_loopw [6, 7] (fun x c wr => ∃ j p : Nat, c = .int .i64 (j : Int) ∧ x = .int .i64 ((num_ s k j : Nat) : Int) ∧ j ≤ n ∧ Hid (k + j = p) ∧ Hid (j ≤ run_ s k) ∧ Hid (ScanAt b s p wr) ∧ Hid (Only b w wr)) (fun _ c _ => n - (intOf c).toNat)
  case atStart => exact ⟨0, k, rfl, rfl, by omega, Lib.hid rfl, Lib.hid (by omega), H, Lib.hid (Only.refl b w)⟩
  case round =>
    clear H
    obtain ⟨j, p, rfl, rfl, hj, HP, HR, HH, HO⟩ := hrel
    obtain ⟨wA, hwA⟩ : ∃ wA : World, wA = wr := ⟨_, rfl⟩
    subst hwA
    obtain ⟨hb, h0, h1, hf⟩ := HH.out
    have HBB := Lib.hid hb
    by_cases hjn : j < n
    · have hjd : decide (j < n) = true := by rw [decide_eq_true_eq]; exact hjn
      have hjd2 : decide ((j : Int) < (n : Int)) = true := by rw [decide_eq_true_eq]; omega
      have hpb : p ≤ s.size := by have e := run_le s k HK.out; have e2 := HP.out; have e3 := HR.out; omega
      by_cases hlt : p < s.size
      · have hd : decide (s.size ≤ p) = false := by rw [decide_eq_false_iff_not]; omega
        have hd2 : decide ((s.size : Int) ≤ (p : Int)) = false := by rw [decide_eq_false_iff_not]; omega
        have hs2 : IntKind.i64.wrap ((p : Int) + 1) = (p : Int) + 1 := IntWalk.i64_in _ (by omega)
        have CD : Hid (∀ m, Calls Tryz.prog 87 #[.int .u8 s[p].toNat] (wA.drewN m) fun e w' => e = .returned (.bool (dig s[p])) ∧ w' = wA.drewN m) := Lib.hid fun m => digit_any _ _
        rcases hdg : dig s[p] with _ | _
        · have HE := Lib.hid (run_out HP.out HR.out hlt hdg)
          have HV : Hid (dgB s k n = false ∧ dgN s k n = 0 ∧ dgK s k n = p) := Lib.hid (by have e := dg_no (s := s) (k := k) (n := n) (by rw [← HE.out]; omega); exact ⟨e.1, e.2.1, e.2.2.trans (by rw [← HE.out]; exact HP.out)⟩)
          rw [hdg] at CD
          clear hdg
          go_wp2_with fail
          go_quiet ((go_at_call 87; exact Calls.quiet_of_same (CD.out _)))
          go_wp2_with fail
          go_ret2
          exact ⟨by rw [HV.out.1, HV.out.2.1]; rfl, by rw [HV.out.2.2]; exact HH.out.drewN _, HO.out.drewN _⟩
        · have HD := Lib.hid (run_in HP.out HR.out hlt hdg)
          rw [hdg] at CD
          obtain ⟨h48, h57⟩ := dig_iff.1 hdg
          clear hdg
          obtain ⟨X, hX⟩ : ∃ X, num_ s k j = X := ⟨_, rfl⟩
          have hXl : X < 10 ^ j := by rw [← hX]; exact num_lt HR.out
          have hXl2 : X ≤ 100000000 := by have := pow8 hjn hn; omega
          obtain ⟨d, hdd⟩ : ∃ d, s[p].toNat - 48 = d := ⟨_, rfl⟩
          have f1 : IntKind.u8.wrap ((s[p].toNat : Int) - 48) = (d : Int) := by rw [← hdd]; exact u8_dig h48 h57
          have f2 : IntKind.i64.wrap (d : Int) = (d : Int) := IntWalk.i64_in _ (by omega)
          obtain ⟨Y, hY⟩ : ∃ Y, 10 * X = Y := ⟨_, rfl⟩
          have f3 : IntKind.i64.wrap (10 * (X : Int)) = (Y : Int) := by rw [← hY]; exact IntWalk.i64_in _ (by omega)
          obtain ⟨Z, hZ⟩ : ∃ Z, Y + d = Z := ⟨_, rfl⟩
          have f4 : IntKind.i64.wrap ((Y : Int) + (d : Int)) = (Z : Int) := by rw [← hZ]; exact IntWalk.i64_in _ (by omega)
          have HZ : Hid (num_ s k (j + 1) = Z) := Lib.hid (by rw [← hZ, ← hY, ← hX, ← hdd]; have e := HP.out; subst e; exact num_succ hlt)
          rw [hX]
          clear hX hXl hdd hY hZ h48 h57 hXl2
          go_wp2_with fail
          go_quiet ((go_at_call 87; exact Calls.quiet_of_same (CD.out _)))
          go_wp2_with fail
          go_quiet (fail)
          go_wp2_with fail
          go_roundw
          case rel => exact ⟨j + 1, p + 1, by go_num, by rw [HZ.out], by omega, Lib.hid (by have := HP.out; omega), Lib.hid HD.out, Lib.hid ((HH.out.drewN _).set _), Lib.hid ((HO.out.drewN _).setCell 1 _)⟩
          case measure => simp [intOf]; omega
      · have hd : decide (s.size ≤ p) = true := by rw [decide_eq_true_eq]; omega
        have hd2 : decide ((s.size : Int) ≤ (p : Int)) = true := by rw [decide_eq_true_eq]; omega
        have HE := Lib.hid (run_off HP.out HR.out HK.out hlt)
        have HV : Hid (dgB s k n = false ∧ dgN s k n = 0 ∧ dgK s k n = p) := Lib.hid (by have e := dg_no (s := s) (k := k) (n := n) (by rw [← HE.out]; omega); exact ⟨e.1, e.2.1, e.2.2.trans (by rw [← HE.out]; exact HP.out)⟩)
        go_wp2_with fail
        go_quiet (fail)
        go_wp2_with fail
        go_ret2
        exact ⟨by rw [HV.out.1, HV.out.2.1]; rfl, by rw [HV.out.2.2]; exact HH.out.drewN _, HO.out.drewN _⟩
    · obtain rfl : n = j := by omega
      have HV := Lib.hid (dg_yes HR.out)
      have hjd : decide (n < n) = false := by rw [decide_eq_false_iff_not]; omega
      have hjd2 : decide ((n : Int) < (n : Int)) = false := by rw [decide_eq_false_iff_not]; omega
      go_wp2_with fail
      go_ret2
      exact ⟨by rw [HV.out.1, HV.out.2.1]; rfl, by rw [HV.out.2.2, HP.out]; exact HH.out, HO.out⟩
/-- The byte that stands there; 0 behind the end. -/
def nxt (s : ByteArray) (k : Nat) : UInt8 := s.data.toList.getD k 0
theorem nxt_in {s : ByteArray} {k : Nat} (h : k < s.size) : nxt s k = s[k] := by
  unfold nxt; rw [List.getD, List.getElem?_eq_getElem (by rw [lenT]; exact h)]; rfl
theorem nxt_end {s : ByteArray} {k : Nat} (h : ¬ k < s.size) : nxt s k = 0 := by
  unfold nxt; rw [List.getD, List.getElem?_eq_none (by rw [lenT]; omega)]; rfl
set_option maxRecDepth 100000 in
theorem next_any (b : Nat) (s : ByteArray) (k : Nat) (w : World) (h : ScanAt b s k w) :
    Calls Tryz.prog 48 #[.pointer (some ⟨b, 0, none⟩)] w fun e w' => e = .returned (.int .u8 ((nxt s k).toNat : Int)) ∧ ∃ m, w' = w.drewN m := by
  obtain ⟨hb, h0, h1, hf⟩ := h
  by_cases hk : k < s.size
  · have HX := Lib.hid (nxt_in hk)
    have hd : decide (k < s.size) = true := by rw [decide_eq_true_eq]; exact hk
    have hd2 : decide ((k : Int) < (s.size : Int)) = true := by rw [decide_eq_true_eq]; omega
    go_enter Tryz.func48, Tryz.ntmps48
    go_wp2_with fail
    go_quiet (fail)
    go_wp2_with fail
    go_quiet (fail)
    go_wp2_with fail
    go_ret
    exact ⟨by rw [HX.out]; rfl, _, World.drewN_drewN _ _ _⟩
  · have HX := Lib.hid (nxt_end hk)
    have hd : decide (k < s.size) = false := by rw [decide_eq_false_iff_not]; exact hk
    have hd2 : decide ((k : Int) < (s.size : Int)) = false := by rw [decide_eq_false_iff_not]; omega
    go_enter Tryz.func48, Tryz.ntmps48
    go_wp2_with fail
    go_quiet (fail)
    go_wp2_with fail
    go_ret
    exact ⟨by rw [HX.out]; rfl, _, rfl⟩
/-- A fault at a place, in a box from B on. -/
def AtBox (B : Nat) (n k : Int) (v : Value) (w : World) : Prop := ∃ p : Nat, v = .iface 105 (.pointer (some ⟨p, 0, none⟩)) ∧ w.cell? ⟨p, 0, none⟩ = some (.int .i64 n) ∧ w.cell? ⟨p, 1, none⟩ = some (.int .i64 k) ∧ p < w.heap.size ∧ B ≤ p
theorem AtBox.call {B : Nat} {w1 w2 : World} {n k : Int} {v : Value} (h : AtBox B n k v w1) (hb : Below w1.heap.size w1 w2) : AtBox B n k v w2 := by
  obtain ⟨p, h1, h2, h3, h4, h5⟩ := h
  exact ⟨p, h1, (hb.cell (p := ⟨p, 0, none⟩) h4).trans h2, (hb.cell (p := ⟨p, 1, none⟩) h4).trans h3, Nat.lt_of_lt_of_le h4 hb.size, h5⟩
theorem AtBox.mono {B C : Nat} {w : World} {n k : Int} {v : Value} (h : AtBox B n k v w) (hC : C ≤ B) : AtBox C n k v w := by
  obtain ⟨p, h1, h2, h3, h4, h5⟩ := h
  exact ⟨p, h1, h2, h3, h4, Nat.le_trans hC h5⟩
theorem AtBox.set {B : Nat} {w : World} {n k : Int} {v : Value} (h : AtBox B n k v w) {q : Addr} (hq : q.block < B) (x : Value) : AtBox B n k v (w.setCell q x) := by
  obtain ⟨p, h1, h2, h3, h4, h5⟩ := h
  exact ⟨p, h1, (World.cell?_setCell_other _ _ _ _ (by intro e; have := congrArg Addr.block e; simp at this; omega)).trans h2, (World.cell?_setCell_other _ _ _ _ (by intro e; have := congrArg Addr.block e; simp at this; omega)).trans h3, by simp [World.setCell]; exact h4, h5⟩
theorem AtBox.new (w : World) (n k : Int) : AtBox w.heap.size n k (.iface 105 (.pointer (some ⟨w.heap.size, 0, none⟩))) (w.alloc (.cells #[.int .i64 n, .int .i64 k] 107)) := ⟨w.heap.size, rfl, by simp, by simp, by simp, Nat.le_refl _⟩
theorem AtBox.drewN {B : Nat} {w : World} {n k : Int} {v : Value} (h : AtBox B n k v w) (m : Nat) : AtBox B n k v (w.drewN m) := h
/-- What a fault answers: the box's number is told. -/
def BadPost (w : World) (n k : Int) (e : Ending) (w' : World) : Prop := ∃ p : Nat, e = .returned (.iface 105 (.pointer (some ⟨p, 0, none⟩))) ∧ AtBox w.heap.size n k (.iface 105 (.pointer (some ⟨p, 0, none⟩))) w' ∧ Below w.heap.size w w'
theorem bad_any (b : Nat) (s : ByteArray) (k : Nat) (w : World) (h : ScanAt b s k w) :
    Calls Tryz.prog 45 #[.pointer (some ⟨b, 0, none⟩)] w (BadPost w 5 k) := by
  obtain ⟨hb, h0, h1, hf⟩ := h
  go_enter Tryz.func45, Tryz.ntmps45
  go_wp2_with fail
  go_ret
  exact ⟨_, rfl, AtBox.new w 5 k, (Below.refl _ _).alloc (Nat.le_refl _) _⟩
theorem form_any (b : Nat) (s : ByteArray) (k : Nat) (w : World) (h : ScanAt b s k w) :
    Calls Tryz.prog 26 #[.pointer (some ⟨b, 0, none⟩)] w fun e w' => e = .returned (.agg #[.int .i64 5, .int .i64 (k : Int)]) ∧ Below w.heap.size w w' := by
  obtain ⟨hb, h0, h1, hf⟩ := h
  go_enter Tryz.func26, Tryz.ntmps26
  go_wp2_with fail
  have cz := World.cell?_alloc_lt w (.cells #[.int .i64 0, .int .i64 0] 29) ⟨b, 1, none⟩ hb
  exact bodyPost_ret (v := .agg #[.int .i64 5, .int .i64 (k : Int)]) (by simp [results, Tryz.results26, go_sem]) rfl ⟨rfl, (Below.refl _ _).alloc (Nat.le_refl _) _⟩
end Go.Proofs.YtkfpnlenmdlmjaaGreatDoor
