/- The zone of a stamp's text, as the program reads it. Printed by a program of mine. -/
import Derived.Test.YtkfpnlenmdlmjaaGreatDoorZPrsB
namespace Go.Proofs.YtkfpnlenmdlmjaaGreatDoor
open Go.RowKit Scm
structure ZnP where
  kind : Int
  off : Int
  err : Int
  place : Int
  at_ : Nat
def badZ (k : Nat) : ZnP := ⟨0, 0, 5, k, k⟩
def znP (s : ByteArray) (wd : Bool) (sg : Int) (k : Nat) : ZnP :=
  if dgB s k 2 = true then
    if wd = true ∧ isB s (dgK s k 2) 58 = false then badZ (dgK s k 2)
    else if dgB s (if wd = true then dgK s k 2 + 1 else dgK s k 2) 2 = true then
      if 23 < dgN s k 2 ∨ 59 < dgN s (if wd = true then dgK s k 2 + 1 else dgK s k 2) 2 then ⟨0, 0, 3, -1, dgK s (if wd = true then dgK s k 2 + 1 else dgK s k 2) 2⟩
      else ⟨2, sg * ((dgN s k 2 : Nat) * 60 + (dgN s (if wd = true then dgK s k 2 + 1 else dgK s k 2) 2 : Nat)) * 60, 0, -1, dgK s (if wd = true then dgK s k 2 + 1 else dgK s k 2) 2⟩
    else badZ (dgK s (if wd = true then dgK s k 2 + 1 else dgK s k 2) 2)
  else badZ (dgK s k 2)
def zoneP (s : ByteArray) (wd : Bool) (k : Nat) : ZnP :=
  if isB s k 90 = true then ⟨1, 0, 0, -1, k + 1⟩ else if isB s k 45 = true then znP s wd (-1) (k + 1) else if isB s k 43 = true then znP s wd 1 (k + 1) else ⟨0, 0, 0, -1, k⟩
theorem three_ne : (3 : Int) ≠ 0 := by decide
/-- What zone answers. -/
def ZnPost (b : Nat) (s : ByteArray) (P : ZnP) (w : World) (e : Ending) (w' : World) : Prop :=
  ∃ K O v, e = .returned (.tuple #[.int .i64 K, .int .i64 O, v]) ∧ (P.err = 0 → K = P.kind ∧ O = P.off) ∧ ErrIs w.heap.size P.err P.place v w' ∧ ScanAt b s (P.at_ : Int) w' ∧ Only b w w'
set_option maxRecDepth 100000 in
set_option maxHeartbeats 16000000 in
theorem czone_any (b : Nat) (s : ByteArray) (k : Nat) (wd : Bool) (w : World) (h : ScanAt b s k w) (hs : s.size ≤ 9223372036854775807) :
    Calls Tryz.prog 44 #[.pointer (some ⟨b, 0, none⟩), .bool wd] w (ZnPost b s (zoneP s wd k) w) := by
  have S0 := Lib.hid h
  have O0 := Lib.hid (Only.refl b w)
  have HBW : Hid (b ≤ w.heap.size) := Lib.hid (Nat.le_of_lt h.1)
  clear h
  go_enter Tryz.func44, Tryz.ntmps44
  rcases bool_or (isB s (k) 90) with h1 | h1
  · have C1 : Hid (∀ w0, ScanAt b s ((k : Nat) : Int) w0 → Calls Tryz.prog 42 #[.pointer (some ⟨b, 0, none⟩), .int .u8 90] w0 fun e w' => e = .returned (.bool false) ∧ ScanAt b s ((k : Nat) : Int) w' ∧ Only b w0 w') := Lib.hid fun w0 h => by
        have q := cis_any b s (k) 90 w0 h hs
        rw [h1, isK_no h1] at q
        exact q
    have F1 := Lib.hid h1; clear h1
    go_wp2_with (first
      | (go_at_call 42; (with_reducible refine (C1.out _ S0.out).mono ?_); rintro e w1 ⟨rfl, hS, hO⟩; have S1 := Lib.hid hS; have O1 := Lib.hid (O0.out.trans hO); clear hS hO))
    rcases bool_or (isB s (k) 45) with h2 | h2
    · have C2 : Hid (∀ w0, ScanAt b s ((k : Nat) : Int) w0 → Calls Tryz.prog 42 #[.pointer (some ⟨b, 0, none⟩), .int .u8 45] w0 fun e w' => e = .returned (.bool false) ∧ ScanAt b s ((k : Nat) : Int) w' ∧ Only b w0 w') := Lib.hid fun w0 h => by
          have q := cis_any b s (k) 45 w0 h hs
          rw [h2, isK_no h2] at q
          exact q
      have F2 := Lib.hid h2; clear h2
      go_wp2_with (first
        | (go_at_call 42; (with_reducible refine (C2.out _ S1.out).mono ?_); rintro e w2 ⟨rfl, hS, hO⟩; have S2 := Lib.hid hS; have O2 := Lib.hid (O1.out.trans hO); clear hS hO))
      rcases bool_or (isB s (k) 43) with h3 | h3
      · have C3 : Hid (∀ w0, ScanAt b s ((k : Nat) : Int) w0 → Calls Tryz.prog 42 #[.pointer (some ⟨b, 0, none⟩), .int .u8 43] w0 fun e w' => e = .returned (.bool false) ∧ ScanAt b s ((k : Nat) : Int) w' ∧ Only b w0 w') := Lib.hid fun w0 h => by
            have q := cis_any b s (k) 43 w0 h hs
            rw [h3, isK_no h3] at q
            exact q
        have F3 := Lib.hid h3; clear h3
        have HP : Hid (zoneP s wd k = ⟨0, 0, 0, -1, k⟩) := Lib.hid (by simp [zoneP, F1.out, F2.out, F3.out])
        go_wp2_with (first
          | (go_at_call 42; (with_reducible refine (C3.out _ S2.out).mono ?_); rintro e w3 ⟨rfl, hS, hO⟩; have S3 := Lib.hid hS; have O3 := Lib.hid (O2.out.trans hO); clear hS hO))
        go_ret3
        exact ⟨_, _, _, rfl, by rw [HP.out]; exact fun _ => ⟨rfl, by first | rfl | (dsimp only; omega)⟩, by rw [HP.out]; exact .inl ⟨rfl, rfl, rfl⟩, by rw [HP.out]; exact S3.out, O3.out⟩
      · have C3 : Hid (∀ w0, ScanAt b s ((k : Nat) : Int) w0 → Calls Tryz.prog 42 #[.pointer (some ⟨b, 0, none⟩), .int .u8 43] w0 fun e w' => e = .returned (.bool true) ∧ ScanAt b s ((k + 1 : Nat) : Int) w' ∧ Only b w0 w') := Lib.hid fun w0 h => by
            have q := cis_any b s (k) 43 w0 h hs
            rw [h3, isK_yes h3] at q
            exact q
        have F3 := Lib.hid h3; clear h3
        go_wp2_with (first
          | (go_at_call 42; (with_reducible refine (C3.out _ S2.out).mono ?_); rintro e w3 ⟨rfl, hS, hO⟩; have S3 := Lib.hid hS; have O3 := Lib.hid (O2.out.trans hO); clear hS hO))
        rcases bool_or (dgB s (k + 1) 2) with h4 | h4
        · have C4 : Hid (∀ w0, ScanAt b s ((k + 1 : Nat) : Int) w0 → Calls Tryz.prog 78 #[.pointer (some ⟨b, 0, none⟩), .int .i64 2] w0 fun e w' => e = .returned (.tuple #[.int .i64 ((dgN s (k + 1) 2 : Nat) : Int), .bool false]) ∧ ScanAt b s ((dgK s (k + 1) 2 : Nat) : Int) w' ∧ Only b w0 w') := Lib.hid fun w0 h => by
              have q := digits_any b s (k + 1) 2 2 rfl w0 h (isB_lt F3.out) hs (by omega)
              rw [h4] at q
              exact q
          have hx4 := dgN_lt s (k + 1) 2
          have F4 := Lib.hid h4; clear h4
          have C5 : Hid (∀ w0, ScanAt b s ((dgK s (k + 1) 2 : Nat) : Int) w0 → Calls Tryz.prog 45 #[.pointer (some ⟨b, 0, none⟩)] w0 fun e w' => ∃ p : Nat, e = .returned (.iface 105 (.pointer (some ⟨p, 0, none⟩))) ∧ AtBox w0.heap.size 5 ((dgK s (k + 1) 2 : Nat) : Int) (.iface 105 (.pointer (some ⟨p, 0, none⟩))) w' ∧ Below w0.heap.size w0 w') := Lib.hid fun w0 h => bad_any b s (dgK s (k + 1) 2) w0 h
          have HP : Hid (zoneP s wd k = ⟨0, 0, 5, ((dgK s (k + 1) 2 : Nat) : Int), dgK s (k + 1) 2⟩) := Lib.hid (by simp [zoneP, znP, badZ, F1.out, F2.out, F3.out, F4.out])
          go_wp2_with (first
            | (go_at_call 78; (with_reducible refine (C4.out _ S3.out).mono ?_); rintro e w4 ⟨rfl, hS, hO⟩; have S4 := Lib.hid hS; have O4 := Lib.hid (O3.out.trans hO); clear hS hO)
            | (go_at_call 45; (with_reducible refine (C5.out _ S4.out).mono ?_); rintro e wz ⟨p, rfl, hX, hb⟩; have HXZ := Lib.hid hX; have HSZ := Lib.hid (S4.out.call hb); have HOZ := Lib.hid (O4.out.then hb HBW.out); have HLZ := Lib.hid O4.out.1.size; clear hX hb))
          go_ret3
          exact ⟨_, _, _, rfl, by rw [HP.out]; exact fun h => absurd h five_ne, by rw [HP.out]; exact .inr (.inr ⟨five_ne, Int.natCast_nonneg _, HXZ.out.mono HLZ.out⟩), by rw [HP.out]; exact HSZ.out, HOZ.out⟩
        · have C4 : Hid (∀ w0, ScanAt b s ((k + 1 : Nat) : Int) w0 → Calls Tryz.prog 78 #[.pointer (some ⟨b, 0, none⟩), .int .i64 2] w0 fun e w' => e = .returned (.tuple #[.int .i64 ((dgN s (k + 1) 2 : Nat) : Int), .bool true]) ∧ ScanAt b s ((dgK s (k + 1) 2 : Nat) : Int) w' ∧ Only b w0 w') := Lib.hid fun w0 h => by
              have q := digits_any b s (k + 1) 2 2 rfl w0 h (isB_lt F3.out) hs (by omega)
              rw [h4] at q
              exact q
          have hx4 := dgN_lt s (k + 1) 2
          have F4 := Lib.hid h4; clear h4
          obtain ⟨H, hH⟩ : ∃ H, dgN s (k + 1) 2 = H := ⟨_, rfl⟩
          rw [hH] at C4
          have hHl : H < 100 := by rw [← hH]; exact dgN_lt s _ 2
          rcases wd with _ | _
          · skip
            go_wp2_with (first
              | (go_at_call 78; (with_reducible refine (C4.out _ S3.out).mono ?_); rintro e w4 ⟨rfl, hS, hO⟩; have S4 := Lib.hid hS; have O4 := Lib.hid (O3.out.trans hO); clear hS hO))
            rcases bool_or (dgB s (dgK s (k + 1) 2) 2) with h6 | h6
            · have C6 : Hid (∀ w0, ScanAt b s ((dgK s (k + 1) 2 : Nat) : Int) w0 → Calls Tryz.prog 78 #[.pointer (some ⟨b, 0, none⟩), .int .i64 2] w0 fun e w' => e = .returned (.tuple #[.int .i64 ((dgN s (dgK s (k + 1) 2) 2 : Nat) : Int), .bool false]) ∧ ScanAt b s ((dgK s (dgK s (k + 1) 2) 2 : Nat) : Int) w' ∧ Only b w0 w') := Lib.hid fun w0 h => by
                  have q := digits_any b s (dgK s (k + 1) 2) 2 2 rfl w0 h (dgK_le (isB_lt F3.out)) hs (by omega)
                  rw [h6] at q
                  exact q
              have hx6 := dgN_lt s (dgK s (k + 1) 2) 2
              have F6 := Lib.hid h6; clear h6
              have C7 : Hid (∀ w0, ScanAt b s ((dgK s (dgK s (k + 1) 2) 2 : Nat) : Int) w0 → Calls Tryz.prog 45 #[.pointer (some ⟨b, 0, none⟩)] w0 fun e w' => ∃ p : Nat, e = .returned (.iface 105 (.pointer (some ⟨p, 0, none⟩))) ∧ AtBox w0.heap.size 5 ((dgK s (dgK s (k + 1) 2) 2 : Nat) : Int) (.iface 105 (.pointer (some ⟨p, 0, none⟩))) w' ∧ Below w0.heap.size w0 w') := Lib.hid fun w0 h => bad_any b s (dgK s (dgK s (k + 1) 2) 2) w0 h
              have HP : Hid (zoneP s false k = ⟨0, 0, 5, ((dgK s (dgK s (k + 1) 2) 2 : Nat) : Int), dgK s (dgK s (k + 1) 2) 2⟩) := Lib.hid (by simp [zoneP, znP, badZ, F1.out, F2.out, F3.out, F4.out, F6.out])
              go_wp2_with (first
                | (go_at_call 78; (with_reducible refine (C6.out _ S4.out).mono ?_); rintro e w6 ⟨rfl, hS, hO⟩; have S6 := Lib.hid hS; have O6 := Lib.hid (O4.out.trans hO); clear hS hO)
                | (go_at_call 45; (with_reducible refine (C7.out _ S6.out).mono ?_); rintro e wz ⟨p, rfl, hX, hb⟩; have HXZ := Lib.hid hX; have HSZ := Lib.hid (S6.out.call hb); have HOZ := Lib.hid (O6.out.then hb HBW.out); have HLZ := Lib.hid O6.out.1.size; clear hX hb))
              go_ret3
              exact ⟨_, _, _, rfl, by rw [HP.out]; exact fun h => absurd h five_ne, by rw [HP.out]; exact .inr (.inr ⟨five_ne, Int.natCast_nonneg _, HXZ.out.mono HLZ.out⟩), by rw [HP.out]; exact HSZ.out, HOZ.out⟩
            · have C6 : Hid (∀ w0, ScanAt b s ((dgK s (k + 1) 2 : Nat) : Int) w0 → Calls Tryz.prog 78 #[.pointer (some ⟨b, 0, none⟩), .int .i64 2] w0 fun e w' => e = .returned (.tuple #[.int .i64 ((dgN s (dgK s (k + 1) 2) 2 : Nat) : Int), .bool true]) ∧ ScanAt b s ((dgK s (dgK s (k + 1) 2) 2 : Nat) : Int) w' ∧ Only b w0 w') := Lib.hid fun w0 h => by
                  have q := digits_any b s (dgK s (k + 1) 2) 2 2 rfl w0 h (dgK_le (isB_lt F3.out)) hs (by omega)
                  rw [h6] at q
                  exact q
              have hx6 := dgN_lt s (dgK s (k + 1) 2) 2
              have F6 := Lib.hid h6; clear h6
              obtain ⟨M, hM⟩ : ∃ M, dgN s (dgK s (k + 1) 2) 2 = M := ⟨_, rfl⟩
              rw [hM] at C6
              have hMl : M < 100 := by rw [← hM]; exact dgN_lt s _ 2
              rcases (show 23 < H ∨ (¬ 23 < H ∧ 59 < M) ∨ (¬ 23 < H ∧ ¬ 59 < M) by omega) with g | ⟨g1, g⟩ | ⟨g1, g⟩
              · have d1 : decide (23 < H) = true := decide_eq_true g; have d1i : decide (23 < (H : Int)) = true := decide_eq_true (by omega)
                have HP : Hid (zoneP s false k = ⟨0, 0, 3, -1, dgK s (dgK s (k + 1) 2) 2⟩) := Lib.hid (by simp [zoneP, znP, F1.out, F2.out, F3.out, F4.out, F6.out, hH, hM, g])
                go_wp2_with (first
                  | (go_at_call 78; (with_reducible refine (C6.out _ S4.out).mono ?_); rintro e w6 ⟨rfl, hS, hO⟩; have S6 := Lib.hid hS; have O6 := Lib.hid (O4.out.trans hO); clear hS hO))
                go_ret3
                exact ⟨_, _, _, rfl, by rw [HP.out]; exact fun h => absurd h three_ne, by rw [HP.out]; exact .inr (.inl ⟨three_ne, rfl, rfl⟩), by rw [HP.out]; exact S6.out, O6.out⟩
              · have d1 : decide (23 < H) = false := decide_eq_false g1; have d1i : decide (23 < (H : Int)) = false := decide_eq_false (by omega); have d2 : decide (59 < M) = true := decide_eq_true g; have d2i : decide (59 < (M : Int)) = true := decide_eq_true (by omega)
                have HP : Hid (zoneP s false k = ⟨0, 0, 3, -1, dgK s (dgK s (k + 1) 2) 2⟩) := Lib.hid (by simp [zoneP, znP, F1.out, F2.out, F3.out, F4.out, F6.out, hH, hM, g])
                go_wp2_with (first
                  | (go_at_call 78; (with_reducible refine (C6.out _ S4.out).mono ?_); rintro e w6 ⟨rfl, hS, hO⟩; have S6 := Lib.hid hS; have O6 := Lib.hid (O4.out.trans hO); clear hS hO))
                go_ret3
                exact ⟨_, _, _, rfl, by rw [HP.out]; exact fun h => absurd h three_ne, by rw [HP.out]; exact .inr (.inl ⟨three_ne, rfl, rfl⟩), by rw [HP.out]; exact S6.out, O6.out⟩
              · have d1 : decide (23 < H) = false := decide_eq_false g1; have d1i : decide (23 < (H : Int)) = false := decide_eq_false (by omega); have d2 : decide (59 < M) = false := decide_eq_false g; have d2i : decide (59 < (M : Int)) = false := decide_eq_false (by omega)
                have HP : Hid (zoneP s false k = ⟨2, 1 * ((H : Int) * 60 + (M : Int)) * 60, 0, -1, dgK s (dgK s (k + 1) 2) 2⟩) := Lib.hid (by simp [zoneP, znP, F1.out, F2.out, F3.out, F4.out, F6.out, hH, hM, g1, g])
                go_wp2_with (first
                  | (go_at_call 78; (with_reducible refine (C6.out _ S4.out).mono ?_); rintro e w6 ⟨rfl, hS, hO⟩; have S6 := Lib.hid hS; have O6 := Lib.hid (O4.out.trans hO); clear hS hO))
                go_ret3
                exact ⟨_, _, _, rfl, by rw [HP.out]; exact fun _ => ⟨rfl, by first | rfl | (dsimp only; omega)⟩, by rw [HP.out]; exact .inl ⟨rfl, rfl, rfl⟩, by rw [HP.out]; exact S6.out, O6.out⟩
          · skip
            go_wp2_with (first
              | (go_at_call 78; (with_reducible refine (C4.out _ S3.out).mono ?_); rintro e w4 ⟨rfl, hS, hO⟩; have S4 := Lib.hid hS; have O4 := Lib.hid (O3.out.trans hO); clear hS hO))
            rcases bool_or (isB s (dgK s (k + 1) 2) 58) with h8 | h8
            · have C8 : Hid (∀ w0, ScanAt b s ((dgK s (k + 1) 2 : Nat) : Int) w0 → Calls Tryz.prog 42 #[.pointer (some ⟨b, 0, none⟩), .int .u8 58] w0 fun e w' => e = .returned (.bool false) ∧ ScanAt b s ((dgK s (k + 1) 2 : Nat) : Int) w' ∧ Only b w0 w') := Lib.hid fun w0 h => by
                  have q := cis_any b s (dgK s (k + 1) 2) 58 w0 h hs
                  rw [h8, isK_no h8] at q
                  exact q
              have F8 := Lib.hid h8; clear h8
              have C9 : Hid (∀ w0, ScanAt b s ((dgK s (k + 1) 2 : Nat) : Int) w0 → Calls Tryz.prog 45 #[.pointer (some ⟨b, 0, none⟩)] w0 fun e w' => ∃ p : Nat, e = .returned (.iface 105 (.pointer (some ⟨p, 0, none⟩))) ∧ AtBox w0.heap.size 5 ((dgK s (k + 1) 2 : Nat) : Int) (.iface 105 (.pointer (some ⟨p, 0, none⟩))) w' ∧ Below w0.heap.size w0 w') := Lib.hid fun w0 h => bad_any b s (dgK s (k + 1) 2) w0 h
              have HP : Hid (zoneP s true k = ⟨0, 0, 5, ((dgK s (k + 1) 2 : Nat) : Int), dgK s (k + 1) 2⟩) := Lib.hid (by simp [zoneP, znP, badZ, F1.out, F2.out, F3.out, F4.out, F8.out])
              go_wp2_with (first
                | (go_at_call 42; (with_reducible refine (C8.out _ S4.out).mono ?_); rintro e w8 ⟨rfl, hS, hO⟩; have S8 := Lib.hid hS; have O8 := Lib.hid (O4.out.trans hO); clear hS hO)
                | (go_at_call 45; (with_reducible refine (C9.out _ S8.out).mono ?_); rintro e wz ⟨p, rfl, hX, hb⟩; have HXZ := Lib.hid hX; have HSZ := Lib.hid (S8.out.call hb); have HOZ := Lib.hid (O8.out.then hb HBW.out); have HLZ := Lib.hid O8.out.1.size; clear hX hb))
              go_ret3
              exact ⟨_, _, _, rfl, by rw [HP.out]; exact fun h => absurd h five_ne, by rw [HP.out]; exact .inr (.inr ⟨five_ne, Int.natCast_nonneg _, HXZ.out.mono HLZ.out⟩), by rw [HP.out]; exact HSZ.out, HOZ.out⟩
            · have C8 : Hid (∀ w0, ScanAt b s ((dgK s (k + 1) 2 : Nat) : Int) w0 → Calls Tryz.prog 42 #[.pointer (some ⟨b, 0, none⟩), .int .u8 58] w0 fun e w' => e = .returned (.bool true) ∧ ScanAt b s ((dgK s (k + 1) 2 + 1 : Nat) : Int) w' ∧ Only b w0 w') := Lib.hid fun w0 h => by
                  have q := cis_any b s (dgK s (k + 1) 2) 58 w0 h hs
                  rw [h8, isK_yes h8] at q
                  exact q
              have F8 := Lib.hid h8; clear h8
              go_wp2_with (first
                | (go_at_call 42; (with_reducible refine (C8.out _ S4.out).mono ?_); rintro e w8 ⟨rfl, hS, hO⟩; have S8 := Lib.hid hS; have O8 := Lib.hid (O4.out.trans hO); clear hS hO))
              rcases bool_or (dgB s (dgK s (k + 1) 2 + 1) 2) with h10 | h10
              · have C10 : Hid (∀ w0, ScanAt b s ((dgK s (k + 1) 2 + 1 : Nat) : Int) w0 → Calls Tryz.prog 78 #[.pointer (some ⟨b, 0, none⟩), .int .i64 2] w0 fun e w' => e = .returned (.tuple #[.int .i64 ((dgN s (dgK s (k + 1) 2 + 1) 2 : Nat) : Int), .bool false]) ∧ ScanAt b s ((dgK s (dgK s (k + 1) 2 + 1) 2 : Nat) : Int) w' ∧ Only b w0 w') := Lib.hid fun w0 h => by
                    have q := digits_any b s (dgK s (k + 1) 2 + 1) 2 2 rfl w0 h (isB_lt F8.out) hs (by omega)
                    rw [h10] at q
                    exact q
                have hx10 := dgN_lt s (dgK s (k + 1) 2 + 1) 2
                have F10 := Lib.hid h10; clear h10
                have C11 : Hid (∀ w0, ScanAt b s ((dgK s (dgK s (k + 1) 2 + 1) 2 : Nat) : Int) w0 → Calls Tryz.prog 45 #[.pointer (some ⟨b, 0, none⟩)] w0 fun e w' => ∃ p : Nat, e = .returned (.iface 105 (.pointer (some ⟨p, 0, none⟩))) ∧ AtBox w0.heap.size 5 ((dgK s (dgK s (k + 1) 2 + 1) 2 : Nat) : Int) (.iface 105 (.pointer (some ⟨p, 0, none⟩))) w' ∧ Below w0.heap.size w0 w') := Lib.hid fun w0 h => bad_any b s (dgK s (dgK s (k + 1) 2 + 1) 2) w0 h
                have HP : Hid (zoneP s true k = ⟨0, 0, 5, ((dgK s (dgK s (k + 1) 2 + 1) 2 : Nat) : Int), dgK s (dgK s (k + 1) 2 + 1) 2⟩) := Lib.hid (by simp [zoneP, znP, badZ, F1.out, F2.out, F3.out, F4.out, F8.out, F10.out])
                go_wp2_with (first
                  | (go_at_call 78; (with_reducible refine (C10.out _ S8.out).mono ?_); rintro e w10 ⟨rfl, hS, hO⟩; have S10 := Lib.hid hS; have O10 := Lib.hid (O8.out.trans hO); clear hS hO)
                  | (go_at_call 45; (with_reducible refine (C11.out _ S10.out).mono ?_); rintro e wz ⟨p, rfl, hX, hb⟩; have HXZ := Lib.hid hX; have HSZ := Lib.hid (S10.out.call hb); have HOZ := Lib.hid (O10.out.then hb HBW.out); have HLZ := Lib.hid O10.out.1.size; clear hX hb))
                go_ret3
                exact ⟨_, _, _, rfl, by rw [HP.out]; exact fun h => absurd h five_ne, by rw [HP.out]; exact .inr (.inr ⟨five_ne, Int.natCast_nonneg _, HXZ.out.mono HLZ.out⟩), by rw [HP.out]; exact HSZ.out, HOZ.out⟩
              · have C10 : Hid (∀ w0, ScanAt b s ((dgK s (k + 1) 2 + 1 : Nat) : Int) w0 → Calls Tryz.prog 78 #[.pointer (some ⟨b, 0, none⟩), .int .i64 2] w0 fun e w' => e = .returned (.tuple #[.int .i64 ((dgN s (dgK s (k + 1) 2 + 1) 2 : Nat) : Int), .bool true]) ∧ ScanAt b s ((dgK s (dgK s (k + 1) 2 + 1) 2 : Nat) : Int) w' ∧ Only b w0 w') := Lib.hid fun w0 h => by
                    have q := digits_any b s (dgK s (k + 1) 2 + 1) 2 2 rfl w0 h (isB_lt F8.out) hs (by omega)
                    rw [h10] at q
                    exact q
                have hx10 := dgN_lt s (dgK s (k + 1) 2 + 1) 2
                have F10 := Lib.hid h10; clear h10
                obtain ⟨M, hM⟩ : ∃ M, dgN s (dgK s (k + 1) 2 + 1) 2 = M := ⟨_, rfl⟩
                rw [hM] at C10
                have hMl : M < 100 := by rw [← hM]; exact dgN_lt s _ 2
                rcases (show 23 < H ∨ (¬ 23 < H ∧ 59 < M) ∨ (¬ 23 < H ∧ ¬ 59 < M) by omega) with g | ⟨g1, g⟩ | ⟨g1, g⟩
                · have d1 : decide (23 < H) = true := decide_eq_true g; have d1i : decide (23 < (H : Int)) = true := decide_eq_true (by omega)
                  have HP : Hid (zoneP s true k = ⟨0, 0, 3, -1, dgK s (dgK s (k + 1) 2 + 1) 2⟩) := Lib.hid (by simp [zoneP, znP, F1.out, F2.out, F3.out, F4.out, F8.out, F10.out, hH, hM, g])
                  go_wp2_with (first
                    | (go_at_call 78; (with_reducible refine (C10.out _ S8.out).mono ?_); rintro e w10 ⟨rfl, hS, hO⟩; have S10 := Lib.hid hS; have O10 := Lib.hid (O8.out.trans hO); clear hS hO))
                  go_ret3
                  exact ⟨_, _, _, rfl, by rw [HP.out]; exact fun h => absurd h three_ne, by rw [HP.out]; exact .inr (.inl ⟨three_ne, rfl, rfl⟩), by rw [HP.out]; exact S10.out, O10.out⟩
                · have d1 : decide (23 < H) = false := decide_eq_false g1; have d1i : decide (23 < (H : Int)) = false := decide_eq_false (by omega); have d2 : decide (59 < M) = true := decide_eq_true g; have d2i : decide (59 < (M : Int)) = true := decide_eq_true (by omega)
                  have HP : Hid (zoneP s true k = ⟨0, 0, 3, -1, dgK s (dgK s (k + 1) 2 + 1) 2⟩) := Lib.hid (by simp [zoneP, znP, F1.out, F2.out, F3.out, F4.out, F8.out, F10.out, hH, hM, g])
                  go_wp2_with (first
                    | (go_at_call 78; (with_reducible refine (C10.out _ S8.out).mono ?_); rintro e w10 ⟨rfl, hS, hO⟩; have S10 := Lib.hid hS; have O10 := Lib.hid (O8.out.trans hO); clear hS hO))
                  go_ret3
                  exact ⟨_, _, _, rfl, by rw [HP.out]; exact fun h => absurd h three_ne, by rw [HP.out]; exact .inr (.inl ⟨three_ne, rfl, rfl⟩), by rw [HP.out]; exact S10.out, O10.out⟩
                · have d1 : decide (23 < H) = false := decide_eq_false g1; have d1i : decide (23 < (H : Int)) = false := decide_eq_false (by omega); have d2 : decide (59 < M) = false := decide_eq_false g; have d2i : decide (59 < (M : Int)) = false := decide_eq_false (by omega)
                  have HP : Hid (zoneP s true k = ⟨2, 1 * ((H : Int) * 60 + (M : Int)) * 60, 0, -1, dgK s (dgK s (k + 1) 2 + 1) 2⟩) := Lib.hid (by simp [zoneP, znP, F1.out, F2.out, F3.out, F4.out, F8.out, F10.out, hH, hM, g1, g])
                  go_wp2_with (first
                    | (go_at_call 78; (with_reducible refine (C10.out _ S8.out).mono ?_); rintro e w10 ⟨rfl, hS, hO⟩; have S10 := Lib.hid hS; have O10 := Lib.hid (O8.out.trans hO); clear hS hO))
                  go_ret3
                  exact ⟨_, _, _, rfl, by rw [HP.out]; exact fun _ => ⟨rfl, by first | rfl | (dsimp only; omega)⟩, by rw [HP.out]; exact .inl ⟨rfl, rfl, rfl⟩, by rw [HP.out]; exact S10.out, O10.out⟩
    · have C2 : Hid (∀ w0, ScanAt b s ((k : Nat) : Int) w0 → Calls Tryz.prog 42 #[.pointer (some ⟨b, 0, none⟩), .int .u8 45] w0 fun e w' => e = .returned (.bool true) ∧ ScanAt b s ((k + 1 : Nat) : Int) w' ∧ Only b w0 w') := Lib.hid fun w0 h => by
          have q := cis_any b s (k) 45 w0 h hs
          rw [h2, isK_yes h2] at q
          exact q
      have F2 := Lib.hid h2; clear h2
      go_wp2_with (first
        | (go_at_call 42; (with_reducible refine (C2.out _ S1.out).mono ?_); rintro e w2 ⟨rfl, hS, hO⟩; have S2 := Lib.hid hS; have O2 := Lib.hid (O1.out.trans hO); clear hS hO))
      rcases bool_or (dgB s (k + 1) 2) with h12 | h12
      · have C12 : Hid (∀ w0, ScanAt b s ((k + 1 : Nat) : Int) w0 → Calls Tryz.prog 78 #[.pointer (some ⟨b, 0, none⟩), .int .i64 2] w0 fun e w' => e = .returned (.tuple #[.int .i64 ((dgN s (k + 1) 2 : Nat) : Int), .bool false]) ∧ ScanAt b s ((dgK s (k + 1) 2 : Nat) : Int) w' ∧ Only b w0 w') := Lib.hid fun w0 h => by
            have q := digits_any b s (k + 1) 2 2 rfl w0 h (isB_lt F2.out) hs (by omega)
            rw [h12] at q
            exact q
        have hx12 := dgN_lt s (k + 1) 2
        have F12 := Lib.hid h12; clear h12
        have C13 : Hid (∀ w0, ScanAt b s ((dgK s (k + 1) 2 : Nat) : Int) w0 → Calls Tryz.prog 45 #[.pointer (some ⟨b, 0, none⟩)] w0 fun e w' => ∃ p : Nat, e = .returned (.iface 105 (.pointer (some ⟨p, 0, none⟩))) ∧ AtBox w0.heap.size 5 ((dgK s (k + 1) 2 : Nat) : Int) (.iface 105 (.pointer (some ⟨p, 0, none⟩))) w' ∧ Below w0.heap.size w0 w') := Lib.hid fun w0 h => bad_any b s (dgK s (k + 1) 2) w0 h
        have HP : Hid (zoneP s wd k = ⟨0, 0, 5, ((dgK s (k + 1) 2 : Nat) : Int), dgK s (k + 1) 2⟩) := Lib.hid (by simp [zoneP, znP, badZ, F1.out, F2.out, F12.out])
        go_wp2_with (first
          | (go_at_call 78; (with_reducible refine (C12.out _ S2.out).mono ?_); rintro e w12 ⟨rfl, hS, hO⟩; have S12 := Lib.hid hS; have O12 := Lib.hid (O2.out.trans hO); clear hS hO)
          | (go_at_call 45; (with_reducible refine (C13.out _ S12.out).mono ?_); rintro e wz ⟨p, rfl, hX, hb⟩; have HXZ := Lib.hid hX; have HSZ := Lib.hid (S12.out.call hb); have HOZ := Lib.hid (O12.out.then hb HBW.out); have HLZ := Lib.hid O12.out.1.size; clear hX hb))
        go_ret3
        exact ⟨_, _, _, rfl, by rw [HP.out]; exact fun h => absurd h five_ne, by rw [HP.out]; exact .inr (.inr ⟨five_ne, Int.natCast_nonneg _, HXZ.out.mono HLZ.out⟩), by rw [HP.out]; exact HSZ.out, HOZ.out⟩
      · have C12 : Hid (∀ w0, ScanAt b s ((k + 1 : Nat) : Int) w0 → Calls Tryz.prog 78 #[.pointer (some ⟨b, 0, none⟩), .int .i64 2] w0 fun e w' => e = .returned (.tuple #[.int .i64 ((dgN s (k + 1) 2 : Nat) : Int), .bool true]) ∧ ScanAt b s ((dgK s (k + 1) 2 : Nat) : Int) w' ∧ Only b w0 w') := Lib.hid fun w0 h => by
            have q := digits_any b s (k + 1) 2 2 rfl w0 h (isB_lt F2.out) hs (by omega)
            rw [h12] at q
            exact q
        have hx12 := dgN_lt s (k + 1) 2
        have F12 := Lib.hid h12; clear h12
        obtain ⟨H, hH⟩ : ∃ H, dgN s (k + 1) 2 = H := ⟨_, rfl⟩
        rw [hH] at C12
        have hHl : H < 100 := by rw [← hH]; exact dgN_lt s _ 2
        rcases wd with _ | _
        · skip
          go_wp2_with (first
            | (go_at_call 78; (with_reducible refine (C12.out _ S2.out).mono ?_); rintro e w12 ⟨rfl, hS, hO⟩; have S12 := Lib.hid hS; have O12 := Lib.hid (O2.out.trans hO); clear hS hO))
          rcases bool_or (dgB s (dgK s (k + 1) 2) 2) with h14 | h14
          · have C14 : Hid (∀ w0, ScanAt b s ((dgK s (k + 1) 2 : Nat) : Int) w0 → Calls Tryz.prog 78 #[.pointer (some ⟨b, 0, none⟩), .int .i64 2] w0 fun e w' => e = .returned (.tuple #[.int .i64 ((dgN s (dgK s (k + 1) 2) 2 : Nat) : Int), .bool false]) ∧ ScanAt b s ((dgK s (dgK s (k + 1) 2) 2 : Nat) : Int) w' ∧ Only b w0 w') := Lib.hid fun w0 h => by
                have q := digits_any b s (dgK s (k + 1) 2) 2 2 rfl w0 h (dgK_le (isB_lt F2.out)) hs (by omega)
                rw [h14] at q
                exact q
            have hx14 := dgN_lt s (dgK s (k + 1) 2) 2
            have F14 := Lib.hid h14; clear h14
            have C15 : Hid (∀ w0, ScanAt b s ((dgK s (dgK s (k + 1) 2) 2 : Nat) : Int) w0 → Calls Tryz.prog 45 #[.pointer (some ⟨b, 0, none⟩)] w0 fun e w' => ∃ p : Nat, e = .returned (.iface 105 (.pointer (some ⟨p, 0, none⟩))) ∧ AtBox w0.heap.size 5 ((dgK s (dgK s (k + 1) 2) 2 : Nat) : Int) (.iface 105 (.pointer (some ⟨p, 0, none⟩))) w' ∧ Below w0.heap.size w0 w') := Lib.hid fun w0 h => bad_any b s (dgK s (dgK s (k + 1) 2) 2) w0 h
            have HP : Hid (zoneP s false k = ⟨0, 0, 5, ((dgK s (dgK s (k + 1) 2) 2 : Nat) : Int), dgK s (dgK s (k + 1) 2) 2⟩) := Lib.hid (by simp [zoneP, znP, badZ, F1.out, F2.out, F12.out, F14.out])
            go_wp2_with (first
              | (go_at_call 78; (with_reducible refine (C14.out _ S12.out).mono ?_); rintro e w14 ⟨rfl, hS, hO⟩; have S14 := Lib.hid hS; have O14 := Lib.hid (O12.out.trans hO); clear hS hO)
              | (go_at_call 45; (with_reducible refine (C15.out _ S14.out).mono ?_); rintro e wz ⟨p, rfl, hX, hb⟩; have HXZ := Lib.hid hX; have HSZ := Lib.hid (S14.out.call hb); have HOZ := Lib.hid (O14.out.then hb HBW.out); have HLZ := Lib.hid O14.out.1.size; clear hX hb))
            go_ret3
            exact ⟨_, _, _, rfl, by rw [HP.out]; exact fun h => absurd h five_ne, by rw [HP.out]; exact .inr (.inr ⟨five_ne, Int.natCast_nonneg _, HXZ.out.mono HLZ.out⟩), by rw [HP.out]; exact HSZ.out, HOZ.out⟩
          · have C14 : Hid (∀ w0, ScanAt b s ((dgK s (k + 1) 2 : Nat) : Int) w0 → Calls Tryz.prog 78 #[.pointer (some ⟨b, 0, none⟩), .int .i64 2] w0 fun e w' => e = .returned (.tuple #[.int .i64 ((dgN s (dgK s (k + 1) 2) 2 : Nat) : Int), .bool true]) ∧ ScanAt b s ((dgK s (dgK s (k + 1) 2) 2 : Nat) : Int) w' ∧ Only b w0 w') := Lib.hid fun w0 h => by
                have q := digits_any b s (dgK s (k + 1) 2) 2 2 rfl w0 h (dgK_le (isB_lt F2.out)) hs (by omega)
                rw [h14] at q
                exact q
            have hx14 := dgN_lt s (dgK s (k + 1) 2) 2
            have F14 := Lib.hid h14; clear h14
            obtain ⟨M, hM⟩ : ∃ M, dgN s (dgK s (k + 1) 2) 2 = M := ⟨_, rfl⟩
            rw [hM] at C14
            have hMl : M < 100 := by rw [← hM]; exact dgN_lt s _ 2
            rcases (show 23 < H ∨ (¬ 23 < H ∧ 59 < M) ∨ (¬ 23 < H ∧ ¬ 59 < M) by omega) with g | ⟨g1, g⟩ | ⟨g1, g⟩
            · have d1 : decide (23 < H) = true := decide_eq_true g; have d1i : decide (23 < (H : Int)) = true := decide_eq_true (by omega)
              have HP : Hid (zoneP s false k = ⟨0, 0, 3, -1, dgK s (dgK s (k + 1) 2) 2⟩) := Lib.hid (by simp [zoneP, znP, F1.out, F2.out, F12.out, F14.out, hH, hM, g])
              go_wp2_with (first
                | (go_at_call 78; (with_reducible refine (C14.out _ S12.out).mono ?_); rintro e w14 ⟨rfl, hS, hO⟩; have S14 := Lib.hid hS; have O14 := Lib.hid (O12.out.trans hO); clear hS hO))
              go_ret3
              exact ⟨_, _, _, rfl, by rw [HP.out]; exact fun h => absurd h three_ne, by rw [HP.out]; exact .inr (.inl ⟨three_ne, rfl, rfl⟩), by rw [HP.out]; exact S14.out, O14.out⟩
            · have d1 : decide (23 < H) = false := decide_eq_false g1; have d1i : decide (23 < (H : Int)) = false := decide_eq_false (by omega); have d2 : decide (59 < M) = true := decide_eq_true g; have d2i : decide (59 < (M : Int)) = true := decide_eq_true (by omega)
              have HP : Hid (zoneP s false k = ⟨0, 0, 3, -1, dgK s (dgK s (k + 1) 2) 2⟩) := Lib.hid (by simp [zoneP, znP, F1.out, F2.out, F12.out, F14.out, hH, hM, g])
              go_wp2_with (first
                | (go_at_call 78; (with_reducible refine (C14.out _ S12.out).mono ?_); rintro e w14 ⟨rfl, hS, hO⟩; have S14 := Lib.hid hS; have O14 := Lib.hid (O12.out.trans hO); clear hS hO))
              go_ret3
              exact ⟨_, _, _, rfl, by rw [HP.out]; exact fun h => absurd h three_ne, by rw [HP.out]; exact .inr (.inl ⟨three_ne, rfl, rfl⟩), by rw [HP.out]; exact S14.out, O14.out⟩
            · have d1 : decide (23 < H) = false := decide_eq_false g1; have d1i : decide (23 < (H : Int)) = false := decide_eq_false (by omega); have d2 : decide (59 < M) = false := decide_eq_false g; have d2i : decide (59 < (M : Int)) = false := decide_eq_false (by omega)
              have HP : Hid (zoneP s false k = ⟨2, -1 * ((H : Int) * 60 + (M : Int)) * 60, 0, -1, dgK s (dgK s (k + 1) 2) 2⟩) := Lib.hid (by simp [zoneP, znP, F1.out, F2.out, F12.out, F14.out, hH, hM, g1, g])
              go_wp2_with (first
                | (go_at_call 78; (with_reducible refine (C14.out _ S12.out).mono ?_); rintro e w14 ⟨rfl, hS, hO⟩; have S14 := Lib.hid hS; have O14 := Lib.hid (O12.out.trans hO); clear hS hO))
              go_ret3
              exact ⟨_, _, _, rfl, by rw [HP.out]; exact fun _ => ⟨rfl, by first | rfl | (dsimp only; omega)⟩, by rw [HP.out]; exact .inl ⟨rfl, rfl, rfl⟩, by rw [HP.out]; exact S14.out, O14.out⟩
        · skip
          go_wp2_with (first
            | (go_at_call 78; (with_reducible refine (C12.out _ S2.out).mono ?_); rintro e w12 ⟨rfl, hS, hO⟩; have S12 := Lib.hid hS; have O12 := Lib.hid (O2.out.trans hO); clear hS hO))
          rcases bool_or (isB s (dgK s (k + 1) 2) 58) with h16 | h16
          · have C16 : Hid (∀ w0, ScanAt b s ((dgK s (k + 1) 2 : Nat) : Int) w0 → Calls Tryz.prog 42 #[.pointer (some ⟨b, 0, none⟩), .int .u8 58] w0 fun e w' => e = .returned (.bool false) ∧ ScanAt b s ((dgK s (k + 1) 2 : Nat) : Int) w' ∧ Only b w0 w') := Lib.hid fun w0 h => by
                have q := cis_any b s (dgK s (k + 1) 2) 58 w0 h hs
                rw [h16, isK_no h16] at q
                exact q
            have F16 := Lib.hid h16; clear h16
            have C17 : Hid (∀ w0, ScanAt b s ((dgK s (k + 1) 2 : Nat) : Int) w0 → Calls Tryz.prog 45 #[.pointer (some ⟨b, 0, none⟩)] w0 fun e w' => ∃ p : Nat, e = .returned (.iface 105 (.pointer (some ⟨p, 0, none⟩))) ∧ AtBox w0.heap.size 5 ((dgK s (k + 1) 2 : Nat) : Int) (.iface 105 (.pointer (some ⟨p, 0, none⟩))) w' ∧ Below w0.heap.size w0 w') := Lib.hid fun w0 h => bad_any b s (dgK s (k + 1) 2) w0 h
            have HP : Hid (zoneP s true k = ⟨0, 0, 5, ((dgK s (k + 1) 2 : Nat) : Int), dgK s (k + 1) 2⟩) := Lib.hid (by simp [zoneP, znP, badZ, F1.out, F2.out, F12.out, F16.out])
            go_wp2_with (first
              | (go_at_call 42; (with_reducible refine (C16.out _ S12.out).mono ?_); rintro e w16 ⟨rfl, hS, hO⟩; have S16 := Lib.hid hS; have O16 := Lib.hid (O12.out.trans hO); clear hS hO)
              | (go_at_call 45; (with_reducible refine (C17.out _ S16.out).mono ?_); rintro e wz ⟨p, rfl, hX, hb⟩; have HXZ := Lib.hid hX; have HSZ := Lib.hid (S16.out.call hb); have HOZ := Lib.hid (O16.out.then hb HBW.out); have HLZ := Lib.hid O16.out.1.size; clear hX hb))
            go_ret3
            exact ⟨_, _, _, rfl, by rw [HP.out]; exact fun h => absurd h five_ne, by rw [HP.out]; exact .inr (.inr ⟨five_ne, Int.natCast_nonneg _, HXZ.out.mono HLZ.out⟩), by rw [HP.out]; exact HSZ.out, HOZ.out⟩
          · have C16 : Hid (∀ w0, ScanAt b s ((dgK s (k + 1) 2 : Nat) : Int) w0 → Calls Tryz.prog 42 #[.pointer (some ⟨b, 0, none⟩), .int .u8 58] w0 fun e w' => e = .returned (.bool true) ∧ ScanAt b s ((dgK s (k + 1) 2 + 1 : Nat) : Int) w' ∧ Only b w0 w') := Lib.hid fun w0 h => by
                have q := cis_any b s (dgK s (k + 1) 2) 58 w0 h hs
                rw [h16, isK_yes h16] at q
                exact q
            have F16 := Lib.hid h16; clear h16
            go_wp2_with (first
              | (go_at_call 42; (with_reducible refine (C16.out _ S12.out).mono ?_); rintro e w16 ⟨rfl, hS, hO⟩; have S16 := Lib.hid hS; have O16 := Lib.hid (O12.out.trans hO); clear hS hO))
            rcases bool_or (dgB s (dgK s (k + 1) 2 + 1) 2) with h18 | h18
            · have C18 : Hid (∀ w0, ScanAt b s ((dgK s (k + 1) 2 + 1 : Nat) : Int) w0 → Calls Tryz.prog 78 #[.pointer (some ⟨b, 0, none⟩), .int .i64 2] w0 fun e w' => e = .returned (.tuple #[.int .i64 ((dgN s (dgK s (k + 1) 2 + 1) 2 : Nat) : Int), .bool false]) ∧ ScanAt b s ((dgK s (dgK s (k + 1) 2 + 1) 2 : Nat) : Int) w' ∧ Only b w0 w') := Lib.hid fun w0 h => by
                  have q := digits_any b s (dgK s (k + 1) 2 + 1) 2 2 rfl w0 h (isB_lt F16.out) hs (by omega)
                  rw [h18] at q
                  exact q
              have hx18 := dgN_lt s (dgK s (k + 1) 2 + 1) 2
              have F18 := Lib.hid h18; clear h18
              have C19 : Hid (∀ w0, ScanAt b s ((dgK s (dgK s (k + 1) 2 + 1) 2 : Nat) : Int) w0 → Calls Tryz.prog 45 #[.pointer (some ⟨b, 0, none⟩)] w0 fun e w' => ∃ p : Nat, e = .returned (.iface 105 (.pointer (some ⟨p, 0, none⟩))) ∧ AtBox w0.heap.size 5 ((dgK s (dgK s (k + 1) 2 + 1) 2 : Nat) : Int) (.iface 105 (.pointer (some ⟨p, 0, none⟩))) w' ∧ Below w0.heap.size w0 w') := Lib.hid fun w0 h => bad_any b s (dgK s (dgK s (k + 1) 2 + 1) 2) w0 h
              have HP : Hid (zoneP s true k = ⟨0, 0, 5, ((dgK s (dgK s (k + 1) 2 + 1) 2 : Nat) : Int), dgK s (dgK s (k + 1) 2 + 1) 2⟩) := Lib.hid (by simp [zoneP, znP, badZ, F1.out, F2.out, F12.out, F16.out, F18.out])
              go_wp2_with (first
                | (go_at_call 78; (with_reducible refine (C18.out _ S16.out).mono ?_); rintro e w18 ⟨rfl, hS, hO⟩; have S18 := Lib.hid hS; have O18 := Lib.hid (O16.out.trans hO); clear hS hO)
                | (go_at_call 45; (with_reducible refine (C19.out _ S18.out).mono ?_); rintro e wz ⟨p, rfl, hX, hb⟩; have HXZ := Lib.hid hX; have HSZ := Lib.hid (S18.out.call hb); have HOZ := Lib.hid (O18.out.then hb HBW.out); have HLZ := Lib.hid O18.out.1.size; clear hX hb))
              go_ret3
              exact ⟨_, _, _, rfl, by rw [HP.out]; exact fun h => absurd h five_ne, by rw [HP.out]; exact .inr (.inr ⟨five_ne, Int.natCast_nonneg _, HXZ.out.mono HLZ.out⟩), by rw [HP.out]; exact HSZ.out, HOZ.out⟩
            · have C18 : Hid (∀ w0, ScanAt b s ((dgK s (k + 1) 2 + 1 : Nat) : Int) w0 → Calls Tryz.prog 78 #[.pointer (some ⟨b, 0, none⟩), .int .i64 2] w0 fun e w' => e = .returned (.tuple #[.int .i64 ((dgN s (dgK s (k + 1) 2 + 1) 2 : Nat) : Int), .bool true]) ∧ ScanAt b s ((dgK s (dgK s (k + 1) 2 + 1) 2 : Nat) : Int) w' ∧ Only b w0 w') := Lib.hid fun w0 h => by
                  have q := digits_any b s (dgK s (k + 1) 2 + 1) 2 2 rfl w0 h (isB_lt F16.out) hs (by omega)
                  rw [h18] at q
                  exact q
              have hx18 := dgN_lt s (dgK s (k + 1) 2 + 1) 2
              have F18 := Lib.hid h18; clear h18
              obtain ⟨M, hM⟩ : ∃ M, dgN s (dgK s (k + 1) 2 + 1) 2 = M := ⟨_, rfl⟩
              rw [hM] at C18
              have hMl : M < 100 := by rw [← hM]; exact dgN_lt s _ 2
              rcases (show 23 < H ∨ (¬ 23 < H ∧ 59 < M) ∨ (¬ 23 < H ∧ ¬ 59 < M) by omega) with g | ⟨g1, g⟩ | ⟨g1, g⟩
              · have d1 : decide (23 < H) = true := decide_eq_true g; have d1i : decide (23 < (H : Int)) = true := decide_eq_true (by omega)
                have HP : Hid (zoneP s true k = ⟨0, 0, 3, -1, dgK s (dgK s (k + 1) 2 + 1) 2⟩) := Lib.hid (by simp [zoneP, znP, F1.out, F2.out, F12.out, F16.out, F18.out, hH, hM, g])
                go_wp2_with (first
                  | (go_at_call 78; (with_reducible refine (C18.out _ S16.out).mono ?_); rintro e w18 ⟨rfl, hS, hO⟩; have S18 := Lib.hid hS; have O18 := Lib.hid (O16.out.trans hO); clear hS hO))
                go_ret3
                exact ⟨_, _, _, rfl, by rw [HP.out]; exact fun h => absurd h three_ne, by rw [HP.out]; exact .inr (.inl ⟨three_ne, rfl, rfl⟩), by rw [HP.out]; exact S18.out, O18.out⟩
              · have d1 : decide (23 < H) = false := decide_eq_false g1; have d1i : decide (23 < (H : Int)) = false := decide_eq_false (by omega); have d2 : decide (59 < M) = true := decide_eq_true g; have d2i : decide (59 < (M : Int)) = true := decide_eq_true (by omega)
                have HP : Hid (zoneP s true k = ⟨0, 0, 3, -1, dgK s (dgK s (k + 1) 2 + 1) 2⟩) := Lib.hid (by simp [zoneP, znP, F1.out, F2.out, F12.out, F16.out, F18.out, hH, hM, g])
                go_wp2_with (first
                  | (go_at_call 78; (with_reducible refine (C18.out _ S16.out).mono ?_); rintro e w18 ⟨rfl, hS, hO⟩; have S18 := Lib.hid hS; have O18 := Lib.hid (O16.out.trans hO); clear hS hO))
                go_ret3
                exact ⟨_, _, _, rfl, by rw [HP.out]; exact fun h => absurd h three_ne, by rw [HP.out]; exact .inr (.inl ⟨three_ne, rfl, rfl⟩), by rw [HP.out]; exact S18.out, O18.out⟩
              · have d1 : decide (23 < H) = false := decide_eq_false g1; have d1i : decide (23 < (H : Int)) = false := decide_eq_false (by omega); have d2 : decide (59 < M) = false := decide_eq_false g; have d2i : decide (59 < (M : Int)) = false := decide_eq_false (by omega)
                have HP : Hid (zoneP s true k = ⟨2, -1 * ((H : Int) * 60 + (M : Int)) * 60, 0, -1, dgK s (dgK s (k + 1) 2 + 1) 2⟩) := Lib.hid (by simp [zoneP, znP, F1.out, F2.out, F12.out, F16.out, F18.out, hH, hM, g1, g])
                go_wp2_with (first
                  | (go_at_call 78; (with_reducible refine (C18.out _ S16.out).mono ?_); rintro e w18 ⟨rfl, hS, hO⟩; have S18 := Lib.hid hS; have O18 := Lib.hid (O16.out.trans hO); clear hS hO))
                go_ret3
                exact ⟨_, _, _, rfl, by rw [HP.out]; exact fun _ => ⟨rfl, by first | rfl | (dsimp only; omega)⟩, by rw [HP.out]; exact .inl ⟨rfl, rfl, rfl⟩, by rw [HP.out]; exact S18.out, O18.out⟩
  · have C1 : Hid (∀ w0, ScanAt b s ((k : Nat) : Int) w0 → Calls Tryz.prog 42 #[.pointer (some ⟨b, 0, none⟩), .int .u8 90] w0 fun e w' => e = .returned (.bool true) ∧ ScanAt b s ((k + 1 : Nat) : Int) w' ∧ Only b w0 w') := Lib.hid fun w0 h => by
        have q := cis_any b s (k) 90 w0 h hs
        rw [h1, isK_yes h1] at q
        exact q
    have F1 := Lib.hid h1; clear h1
    have HP : Hid (zoneP s wd k = ⟨1, 0, 0, -1, k + 1⟩) := Lib.hid (by simp [zoneP, F1.out])
    go_wp2_with (first
      | (go_at_call 42; (with_reducible refine (C1.out _ S0.out).mono ?_); rintro e w1 ⟨rfl, hS, hO⟩; have S1 := Lib.hid hS; have O1 := Lib.hid (O0.out.trans hO); clear hS hO))
    go_ret3
    exact ⟨_, _, _, rfl, by rw [HP.out]; exact fun _ => ⟨rfl, by first | rfl | (dsimp only; omega)⟩, by rw [HP.out]; exact .inl ⟨rfl, rfl, rfl⟩, by rw [HP.out]; exact S1.out, O1.out⟩
end Go.Proofs.YtkfpnlenmdlmjaaGreatDoor
