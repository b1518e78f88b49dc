/- The parts of a stamp's text, as the program reads them. Printed by a program of mine. -/
import Derived.Test.YtkfpnlenmdlmjaaGreatDoorZPrsA
namespace Go.Proofs.YtkfpnlenmdlmjaaGreatDoor
open Go.RowKit Scm
theorem bool_or (b : Bool) : b = false ∨ b = true := by cases b <;> simp
theorem five_ne : (5 : Int) ≠ 0 := by decide
set_option maxRecDepth 100000 in
set_option maxHeartbeats 4000000 in
theorem cyear_any (b : Nat) (s : ByteArray) (k : Nat) (w : World) (h : ScanAt b s k w) (hk : k ≤ s.size) (hs : s.size ≤ 9223372036854775807) :
    Calls Tryz.prog 77 #[.pointer (some ⟨b, 0, none⟩)] w (YrPost b s k w) := by
  have S0 := Lib.hid h
  have O0 := Lib.hid (Only.refl b w)
  have HBW : Hid (b ≤ w.heap.size) := Lib.hid (Nat.le_of_lt h.1)
  clear h
  rcases h1 : isB s (k) 45 with _ | _
  · have C1 : Hid (∀ w0, ScanAt b s ((k : Nat) : Int) w0 → Calls Tryz.prog 42 #[.pointer (some ⟨b, 0, none⟩), .int .u8 45] w0 fun e w' => e = .returned (.bool false) ∧ ScanAt b s ((k : Nat) : Int) w' ∧ Only b w0 w') := Lib.hid fun w0 h => by
        have q := cis_any b s (k) 45 w0 h hs
        rw [h1, isK_no h1] at q
        exact q
    rcases h2 : isB s (k) 43 with _ | _
    · have C2 : Hid (∀ w0, ScanAt b s ((k : Nat) : Int) w0 → Calls Tryz.prog 42 #[.pointer (some ⟨b, 0, none⟩), .int .u8 43] w0 fun e w' => e = .returned (.bool false) ∧ ScanAt b s ((k : Nat) : Int) w' ∧ Only b w0 w') := Lib.hid fun w0 h => by
          have q := cis_any b s (k) 43 w0 h hs
          rw [h2, isK_no h2] at q
          exact q
      rcases h3 : dgB s (k) 4 with _ | _
      · have C3 : Hid (∀ w0, ScanAt b s ((k : Nat) : Int) w0 → Calls Tryz.prog 78 #[.pointer (some ⟨b, 0, none⟩), .int .i64 4] w0 fun e w' => e = .returned (.tuple #[.int .i64 ((dgN s (k) 4 : Nat) : Int), .bool false]) ∧ ScanAt b s ((dgK s (k) 4 : Nat) : Int) w' ∧ Only b w0 w') := Lib.hid fun w0 h => by
            have q := digits_any b s (k) 4 4 rfl w0 h hk hs (by omega)
            rw [h3] at q
            exact q
        have hx3 := dgN_lt s (k) 4
        have HY : Hid (yrN s k = 4 ∧ yrK s k = k ∧ yrS s k = 1) := Lib.hid (yr_none h1 h2)
        have HB : Hid (yrB s k = false) := Lib.hid (by unfold yrB; rw [HY.out.1, HY.out.2.1]; exact h3)
        have HE : Hid (yrE s k = dgK s (k) 4) := Lib.hid (by unfold yrE; rw [HY.out.1, HY.out.2.1])
        have HV : Hid (yrY s k = 1 * (dgN s (k) 4 : Nat)) := Lib.hid (by unfold yrY; rw [HY.out.1, HY.out.2.1, HY.out.2.2])
        have C4 : Hid (∀ w0, ScanAt b s ((dgK s (k) 4 : Nat) : Int) w0 → Calls Tryz.prog 45 #[.pointer (some ⟨b, 0, none⟩)] w0 fun e w' => ∃ p : Nat, e = .returned (.iface 105 (.pointer (some ⟨p, 0, none⟩))) ∧ AtBox w0.heap.size 5 ((dgK s (k) 4 : Nat) : Int) (.iface 105 (.pointer (some ⟨p, 0, none⟩))) w' ∧ Below w0.heap.size w0 w') := Lib.hid fun w0 h => bad_any b s (dgK s (k) 4) w0 h
        clear hx3 h1 h2 h3
        go_enter Tryz.func77, Tryz.ntmps77
        go_wp2_with (first
          | (go_at_call 42; (with_reducible refine (C1.out _ S0.out).mono ?_); rintro e w1 ⟨rfl, hS, hO⟩; have S1 := Lib.hid hS; have O1 := Lib.hid (O0.out.trans hO); clear hS hO)
          | (go_at_call 42; (with_reducible refine (C2.out _ S1.out).mono ?_); rintro e w2 ⟨rfl, hS, hO⟩; have S2 := Lib.hid hS; have O2 := Lib.hid (O1.out.trans hO); clear hS hO)
          | (go_at_call 78; (with_reducible refine (C3.out _ S2.out).mono ?_); rintro e w3 ⟨rfl, hS, hO⟩; have S3 := Lib.hid hS; have O3 := Lib.hid (O2.out.trans hO); clear hS hO)
          | (go_at_call 45; (with_reducible refine (C4.out _ S3.out).mono ?_); rintro e wz ⟨p, rfl, hX, hb⟩; have HXZ := Lib.hid hX; have HSZ := Lib.hid (S3.out.call hb); have HOZ := Lib.hid (O3.out.then hb HBW.out); have HLZ := Lib.hid O3.out.1.size; clear hX hb))
        go_ret2
        exact ⟨_, by rw [if_neg (by rw [HB.out]; decide)]; rfl, by rw [if_neg (by rw [HB.out]; decide), if_neg (by rw [HB.out]; decide), HE.out]; exact .inr (.inr ⟨five_ne, Int.natCast_nonneg _, HXZ.out.mono HLZ.out⟩), by rw [HE.out]; exact HSZ.out, HOZ.out⟩
      · have C3 : Hid (∀ w0, ScanAt b s ((k : Nat) : Int) w0 → Calls Tryz.prog 78 #[.pointer (some ⟨b, 0, none⟩), .int .i64 4] w0 fun e w' => e = .returned (.tuple #[.int .i64 ((dgN s (k) 4 : Nat) : Int), .bool true]) ∧ ScanAt b s ((dgK s (k) 4 : Nat) : Int) w' ∧ Only b w0 w') := Lib.hid fun w0 h => by
            have q := digits_any b s (k) 4 4 rfl w0 h hk hs (by omega)
            rw [h3] at q
            exact q
        have hx3 := dgN_lt s (k) 4
        have HY : Hid (yrN s k = 4 ∧ yrK s k = k ∧ yrS s k = 1) := Lib.hid (yr_none h1 h2)
        have HB : Hid (yrB s k = true) := Lib.hid (by unfold yrB; rw [HY.out.1, HY.out.2.1]; exact h3)
        have HE : Hid (yrE s k = dgK s (k) 4) := Lib.hid (by unfold yrE; rw [HY.out.1, HY.out.2.1])
        have HV : Hid (yrY s k = 1 * (dgN s (k) 4 : Nat)) := Lib.hid (by unfold yrY; rw [HY.out.1, HY.out.2.1, HY.out.2.2])
        obtain ⟨X, hX⟩ : ∃ X, dgN s (k) 4 = X := ⟨_, rfl⟩
        rw [hX] at C3 HV hx3
        have hx2 : X < 100000 := Nat.lt_of_lt_of_le hx3 (by decide)
        clear hX hx3 h1 h2 h3
        go_enter Tryz.func77, Tryz.ntmps77
        go_wp2_with (first
          | (go_at_call 42; (with_reducible refine (C1.out _ S0.out).mono ?_); rintro e w1 ⟨rfl, hS, hO⟩; have S1 := Lib.hid hS; have O1 := Lib.hid (O0.out.trans hO); clear hS hO)
          | (go_at_call 42; (with_reducible refine (C2.out _ S1.out).mono ?_); rintro e w2 ⟨rfl, hS, hO⟩; have S2 := Lib.hid hS; have O2 := Lib.hid (O1.out.trans hO); clear hS hO)
          | (go_at_call 78; (with_reducible refine (C3.out _ S2.out).mono ?_); rintro e w3 ⟨rfl, hS, hO⟩; have S3 := Lib.hid hS; have O3 := Lib.hid (O2.out.trans hO); clear hS hO))
        go_ret2
        exact ⟨_, by rw [if_pos HB.out, HV.out]; first | rfl | (simp; rfl) | simp, by rw [if_pos HB.out, if_pos HB.out]; exact .inl ⟨rfl, rfl, rfl⟩, by rw [HE.out]; exact S3.out, O3.out⟩
    · have C2 : Hid (∀ w0, ScanAt b s ((k : Nat) : Int) w0 → Calls Tryz.prog 42 #[.pointer (some ⟨b, 0, none⟩), .int .u8 43] w0 fun e w' => e = .returned (.bool true) ∧ ScanAt b s ((k + 1 : Nat) : Int) w' ∧ Only b w0 w') := Lib.hid fun w0 h => by
          have q := cis_any b s (k) 43 w0 h hs
          rw [h2, isK_yes h2] at q
          exact q
      rcases h5 : dgB s (k + 1) 5 with _ | _
      · have C5 : Hid (∀ w0, ScanAt b s ((k + 1 : Nat) : Int) w0 → Calls Tryz.prog 78 #[.pointer (some ⟨b, 0, none⟩), .int .i64 5] w0 fun e w' => e = .returned (.tuple #[.int .i64 ((dgN s (k + 1) 5 : Nat) : Int), .bool false]) ∧ ScanAt b s ((dgK s (k + 1) 5 : Nat) : Int) w' ∧ Only b w0 w') := Lib.hid fun w0 h => by
            have q := digits_any b s (k + 1) 5 5 rfl w0 h (isB_lt h2) hs (by omega)
            rw [h5] at q
            exact q
        have hx5 := dgN_lt s (k + 1) 5
        have HY : Hid (yrN s k = 5 ∧ yrK s k = k + 1 ∧ yrS s k = 1) := Lib.hid (yr_plus h1 h2)
        have HB : Hid (yrB s k = false) := Lib.hid (by unfold yrB; rw [HY.out.1, HY.out.2.1]; exact h5)
        have HE : Hid (yrE s k = dgK s (k + 1) 5) := Lib.hid (by unfold yrE; rw [HY.out.1, HY.out.2.1])
        have HV : Hid (yrY s k = 1 * (dgN s (k + 1) 5 : Nat)) := Lib.hid (by unfold yrY; rw [HY.out.1, HY.out.2.1, HY.out.2.2])
        have C6 : Hid (∀ w0, ScanAt b s ((dgK s (k + 1) 5 : Nat) : Int) w0 → Calls Tryz.prog 45 #[.pointer (some ⟨b, 0, none⟩)] w0 fun e w' => ∃ p : Nat, e = .returned (.iface 105 (.pointer (some ⟨p, 0, none⟩))) ∧ AtBox w0.heap.size 5 ((dgK s (k + 1) 5 : Nat) : Int) (.iface 105 (.pointer (some ⟨p, 0, none⟩))) w' ∧ Below w0.heap.size w0 w') := Lib.hid fun w0 h => bad_any b s (dgK s (k + 1) 5) w0 h
        clear hx5 h1 h2 h5
        go_enter Tryz.func77, Tryz.ntmps77
        go_wp2_with (first
          | (go_at_call 42; (with_reducible refine (C1.out _ S0.out).mono ?_); rintro e w1 ⟨rfl, hS, hO⟩; have S1 := Lib.hid hS; have O1 := Lib.hid (O0.out.trans hO); clear hS hO)
          | (go_at_call 42; (with_reducible refine (C2.out _ S1.out).mono ?_); rintro e w2 ⟨rfl, hS, hO⟩; have S2 := Lib.hid hS; have O2 := Lib.hid (O1.out.trans hO); clear hS hO)
          | (go_at_call 78; (with_reducible refine (C5.out _ S2.out).mono ?_); rintro e w5 ⟨rfl, hS, hO⟩; have S5 := Lib.hid hS; have O5 := Lib.hid (O2.out.trans hO); clear hS hO)
          | (go_at_call 45; (with_reducible refine (C6.out _ S5.out).mono ?_); rintro e wz ⟨p, rfl, hX, hb⟩; have HXZ := Lib.hid hX; have HSZ := Lib.hid (S5.out.call hb); have HOZ := Lib.hid (O5.out.then hb HBW.out); have HLZ := Lib.hid O5.out.1.size; clear hX hb))
        go_ret2
        exact ⟨_, by rw [if_neg (by rw [HB.out]; decide)]; rfl, by rw [if_neg (by rw [HB.out]; decide), if_neg (by rw [HB.out]; decide), HE.out]; exact .inr (.inr ⟨five_ne, Int.natCast_nonneg _, HXZ.out.mono HLZ.out⟩), by rw [HE.out]; exact HSZ.out, HOZ.out⟩
      · have C5 : Hid (∀ w0, ScanAt b s ((k + 1 : Nat) : Int) w0 → Calls Tryz.prog 78 #[.pointer (some ⟨b, 0, none⟩), .int .i64 5] w0 fun e w' => e = .returned (.tuple #[.int .i64 ((dgN s (k + 1) 5 : Nat) : Int), .bool true]) ∧ ScanAt b s ((dgK s (k + 1) 5 : Nat) : Int) w' ∧ Only b w0 w') := Lib.hid fun w0 h => by
            have q := digits_any b s (k + 1) 5 5 rfl w0 h (isB_lt h2) hs (by omega)
            rw [h5] at q
            exact q
        have hx5 := dgN_lt s (k + 1) 5
        have HY : Hid (yrN s k = 5 ∧ yrK s k = k + 1 ∧ yrS s k = 1) := Lib.hid (yr_plus h1 h2)
        have HB : Hid (yrB s k = true) := Lib.hid (by unfold yrB; rw [HY.out.1, HY.out.2.1]; exact h5)
        have HE : Hid (yrE s k = dgK s (k + 1) 5) := Lib.hid (by unfold yrE; rw [HY.out.1, HY.out.2.1])
        have HV : Hid (yrY s k = 1 * (dgN s (k + 1) 5 : Nat)) := Lib.hid (by unfold yrY; rw [HY.out.1, HY.out.2.1, HY.out.2.2])
        obtain ⟨X, hX⟩ : ∃ X, dgN s (k + 1) 5 = X := ⟨_, rfl⟩
        rw [hX] at C5 HV hx5
        have hx2 : X < 100000 := Nat.lt_of_lt_of_le hx5 (by decide)
        clear hX hx5 h1 h2 h5
        go_enter Tryz.func77, Tryz.ntmps77
        go_wp2_with (first
          | (go_at_call 42; (with_reducible refine (C1.out _ S0.out).mono ?_); rintro e w1 ⟨rfl, hS, hO⟩; have S1 := Lib.hid hS; have O1 := Lib.hid (O0.out.trans hO); clear hS hO)
          | (go_at_call 42; (with_reducible refine (C2.out _ S1.out).mono ?_); rintro e w2 ⟨rfl, hS, hO⟩; have S2 := Lib.hid hS; have O2 := Lib.hid (O1.out.trans hO); clear hS hO)
          | (go_at_call 78; (with_reducible refine (C5.out _ S2.out).mono ?_); rintro e w5 ⟨rfl, hS, hO⟩; have S5 := Lib.hid hS; have O5 := Lib.hid (O2.out.trans hO); clear hS hO))
        go_ret2
        exact ⟨_, by rw [if_pos HB.out, HV.out]; first | rfl | (simp; rfl) | simp, by rw [if_pos HB.out, if_pos HB.out]; exact .inl ⟨rfl, rfl, rfl⟩, by rw [HE.out]; exact S5.out, O5.out⟩
  · have C1 : Hid (∀ w0, ScanAt b s ((k : Nat) : Int) w0 → Calls Tryz.prog 42 #[.pointer (some ⟨b, 0, none⟩), .int .u8 45] w0 fun e w' => e = .returned (.bool true) ∧ ScanAt b s ((k + 1 : Nat) : Int) w' ∧ Only b w0 w') := Lib.hid fun w0 h => by
        have q := cis_any b s (k) 45 w0 h hs
        rw [h1, isK_yes h1] at q
        exact q
    rcases h7 : dgB s (k + 1) 5 with _ | _
    · have C7 : Hid (∀ w0, ScanAt b s ((k + 1 : Nat) : Int) w0 → Calls Tryz.prog 78 #[.pointer (some ⟨b, 0, none⟩), .int .i64 5] w0 fun e w' => e = .returned (.tuple #[.int .i64 ((dgN s (k + 1) 5 : Nat) : Int), .bool false]) ∧ ScanAt b s ((dgK s (k + 1) 5 : Nat) : Int) w' ∧ Only b w0 w') := Lib.hid fun w0 h => by
          have q := digits_any b s (k + 1) 5 5 rfl w0 h (isB_lt h1) hs (by omega)
          rw [h7] at q
          exact q
      have hx7 := dgN_lt s (k + 1) 5
      have HY : Hid (yrN s k = 5 ∧ yrK s k = k + 1 ∧ yrS s k = -1) := Lib.hid (yr_minus h1)
      have HB : Hid (yrB s k = false) := Lib.hid (by unfold yrB; rw [HY.out.1, HY.out.2.1]; exact h7)
      have HE : Hid (yrE s k = dgK s (k + 1) 5) := Lib.hid (by unfold yrE; rw [HY.out.1, HY.out.2.1])
      have HV : Hid (yrY s k = -1 * (dgN s (k + 1) 5 : Nat)) := Lib.hid (by unfold yrY; rw [HY.out.1, HY.out.2.1, HY.out.2.2])
      have C8 : Hid (∀ w0, ScanAt b s ((dgK s (k + 1) 5 : Nat) : Int) w0 → Calls Tryz.prog 45 #[.pointer (some ⟨b, 0, none⟩)] w0 fun e w' => ∃ p : Nat, e = .returned (.iface 105 (.pointer (some ⟨p, 0, none⟩))) ∧ AtBox w0.heap.size 5 ((dgK s (k + 1) 5 : Nat) : Int) (.iface 105 (.pointer (some ⟨p, 0, none⟩))) w' ∧ Below w0.heap.size w0 w') := Lib.hid fun w0 h => bad_any b s (dgK s (k + 1) 5) w0 h
      clear hx7 h1 h7
      go_enter Tryz.func77, Tryz.ntmps77
      go_wp2_with (first
        | (go_at_call 42; (with_reducible refine (C1.out _ S0.out).mono ?_); rintro e w1 ⟨rfl, hS, hO⟩; have S1 := Lib.hid hS; have O1 := Lib.hid (O0.out.trans hO); clear hS hO)
        | (go_at_call 78; (with_reducible refine (C7.out _ S1.out).mono ?_); rintro e w7 ⟨rfl, hS, hO⟩; have S7 := Lib.hid hS; have O7 := Lib.hid (O1.out.trans hO); clear hS hO)
        | (go_at_call 45; (with_reducible refine (C8.out _ S7.out).mono ?_); rintro e wz ⟨p, rfl, hX, hb⟩; have HXZ := Lib.hid hX; have HSZ := Lib.hid (S7.out.call hb); have HOZ := Lib.hid (O7.out.then hb HBW.out); have HLZ := Lib.hid O7.out.1.size; clear hX hb))
      go_ret2
      exact ⟨_, by rw [if_neg (by rw [HB.out]; decide)]; rfl, by rw [if_neg (by rw [HB.out]; decide), if_neg (by rw [HB.out]; decide), HE.out]; exact .inr (.inr ⟨five_ne, Int.natCast_nonneg _, HXZ.out.mono HLZ.out⟩), by rw [HE.out]; exact HSZ.out, HOZ.out⟩
    · have C7 : Hid (∀ w0, ScanAt b s ((k + 1 : Nat) : Int) w0 → Calls Tryz.prog 78 #[.pointer (some ⟨b, 0, none⟩), .int .i64 5] w0 fun e w' => e = .returned (.tuple #[.int .i64 ((dgN s (k + 1) 5 : Nat) : Int), .bool true]) ∧ ScanAt b s ((dgK s (k + 1) 5 : Nat) : Int) w' ∧ Only b w0 w') := Lib.hid fun w0 h => by
          have q := digits_any b s (k + 1) 5 5 rfl w0 h (isB_lt h1) hs (by omega)
          rw [h7] at q
          exact q
      have hx7 := dgN_lt s (k + 1) 5
      have HY : Hid (yrN s k = 5 ∧ yrK s k = k + 1 ∧ yrS s k = -1) := Lib.hid (yr_minus h1)
      have HB : Hid (yrB s k = true) := Lib.hid (by unfold yrB; rw [HY.out.1, HY.out.2.1]; exact h7)
      have HE : Hid (yrE s k = dgK s (k + 1) 5) := Lib.hid (by unfold yrE; rw [HY.out.1, HY.out.2.1])
      have HV : Hid (yrY s k = -1 * (dgN s (k + 1) 5 : Nat)) := Lib.hid (by unfold yrY; rw [HY.out.1, HY.out.2.1, HY.out.2.2])
      obtain ⟨X, hX⟩ : ∃ X, dgN s (k + 1) 5 = X := ⟨_, rfl⟩
      rw [hX] at C7 HV hx7
      have hx2 : X < 100000 := Nat.lt_of_lt_of_le hx7 (by decide)
      clear hX hx7 h1 h7
      go_enter Tryz.func77, Tryz.ntmps77
      go_wp2_with (first
        | (go_at_call 42; (with_reducible refine (C1.out _ S0.out).mono ?_); rintro e w1 ⟨rfl, hS, hO⟩; have S1 := Lib.hid hS; have O1 := Lib.hid (O0.out.trans hO); clear hS hO)
        | (go_at_call 78; (with_reducible refine (C7.out _ S1.out).mono ?_); rintro e w7 ⟨rfl, hS, hO⟩; have S7 := Lib.hid hS; have O7 := Lib.hid (O1.out.trans hO); clear hS hO))
      go_ret2
      exact ⟨_, by rw [if_pos HB.out, HV.out]; first | rfl | (simp; rfl) | simp, by rw [if_pos HB.out, if_pos HB.out]; exact .inl ⟨rfl, rfl, rfl⟩, by rw [HE.out]; exact S7.out, O7.out⟩
end Go.Proofs.YtkfpnlenmdlmjaaGreatDoor
