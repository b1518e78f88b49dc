/- clock.ordinal; the day of a stamp's text, as the program reads it. Printed by a program of mine. -/
import Derived.Test.YtkfpnlenmdlmjaaGreatDoorZPrsB
import Derived.Test.YtkfpnlenmdlmjaaGreatDoorZG3
namespace Go.Proofs.YtkfpnlenmdlmjaaGreatDoor
open Go.RowKit Scm
theorem RomanT.only {b : Nat} {w w' : World} (h : RomanT w) (hO : Only b w w') (hb : 2 < b) : RomanT w' := fun i hi => (hO.cell (p := ⟨2, i, none⟩) h.lt (Nat.ne_of_lt hb)).trans (h i hi)
theorem dayE_bd {c y m d : Int} (h : dayE c y m d = 0) : -4000000 ≤ dayR c y m d ∧ dayR c y m d ≤ 4000000 := by
  have e : dayR c y m d = Dm.dayOf c y m d := if_pos h
  rw [e]
  unfold dayE at h
  split at h
  · exact absurd h ‹_›
  · split at h
    · rename_i hh; exact hh
    · exact absurd h (by decide)
theorem dayE_year {c y m d : Int} (h : dayE c y m d = 0) : yearE c y = 0 := by
  rcases Decidable.em (yearE c y = 0) with h1 | h1
  · exact h1
  · have e1 : lenE c y m = yearE c y := if_pos h1
    have e2 : dateE c y m d = lenE c y m := if_pos (by rw [e1]; exact h1)
    have e3 : dayE c y m d = dateE c y m d := if_pos (by rw [e2, e1]; exact h1)
    rw [e3, e2, e1] at h
    exact absurd h h1
set_option maxRecDepth 100000 in
set_option maxHeartbeats 2000000 in
theorem ordinal_any (y n : Int) (w : World) (hr : RomanT w) (_hy : -100000 < y ∧ y < 100000) (hn : 0 ≤ n ∧ n < 1000) :
    Calls Tryz.prog 81 #[.int .i64 y, .int .i64 n] w fun e w' => e = .returned (.tuple #[.int .i64 (ordR y n), errV (ordE y n)]) ∧ Below w.heap.size w w' := by
  have CD : Hid (∀ w0, Below w.heap.size w w0 → Calls Tryz.prog 82 #[.agg #[.int .i64 1, .int .i64 y, .int .i64 1, .int .i64 1]] w0 fun e w' => e = .returned (.tuple #[.int .i64 (dayR 1 y 1 1), errV (dayE 1 y 1 1)]) ∧ Below w0.heap.size w0 w') := Lib.hid fun w0 hb => day_all 1 y 1 1 w0 (hr.call hb)
  obtain ⟨n0, n1⟩ := hn
  by_cases hE : dayE 1 y 1 1 = 0
  · have hYE := dayE_year hE
    obtain ⟨b1, b2⟩ := dayE_bd hE
    have CL : Hid (∀ w0, Below w.heap.size w w0 → Calls Tryz.prog 109 #[.int .i64 1, .int .i64 y] w0 fun e w' => e = .returned (.tuple #[.bool (leapR 1 y), .nilIface]) ∧ Below w0.heap.size w0 w') := Lib.hid fun w0 hb => by
      have q := leap_all 1 y w0 (hr.call hb)
      rw [hYE] at q
      exact q
    rw [hE, show errV 0 = Value.nilIface from rfl] at CD
    have HG : Hid (ordE y n = if n < 1 ∨ 366 < n ∨ n = 366 ∧ leapR 1 y = false then 3 else 0) := Lib.hid (if_neg (fun h => h hE))
    have HR0 : Hid (∀ x, ordE y n = x → x ≠ 0 → ordR y n = 0) := Lib.hid fun x h1 h2 => if_neg (by rw [h1]; exact h2)
    have HR1 : Hid (ordE y n = 0 → ordR y n = dayR 1 y 1 1 + n - 1) := Lib.hid fun h => if_pos h
    obtain ⟨D, hD⟩ : ∃ D, dayR 1 y 1 1 = D := ⟨_, rfl⟩
    rw [hD] at CD b1 b2 HR1
    obtain ⟨L, hL⟩ : ∃ L, leapR 1 y = L := ⟨_, rfl⟩
    rw [hL] at CL HG
    clear hD hL hYE hE hr
    rcases (show n < 1 ∨ (¬ n < 1 ∧ 366 < n) ∨ (¬ n < 1 ∧ ¬ 366 < n ∧ n = 366) ∨ (¬ n < 1 ∧ ¬ 366 < n ∧ n ≠ 366) by omega) with g | ⟨g1, g⟩ | ⟨g1, g2, g⟩ | ⟨g1, g2, g⟩
    · have HE3 : Hid (ordE y n = 3) := Lib.hid (by rw [HG.out, if_pos (.inl g)])
      have d1 : decide (n < 1) = true := decide_eq_true g
      go_enter Tryz.func81, Tryz.ntmps81
      go_wp2_with (first
        | (go_at_call 82; (with_reducible refine (CD.out _ (Below.refl _ _)).mono ?_); rintro e w1 ⟨rfl, hb⟩; have HB1 := Lib.hid hb; clear hb)
        | (go_at_call 109; (with_reducible refine (CL.out _ HB1.out).mono ?_); rintro e w2 ⟨rfl, hb⟩; have HB2 := Lib.hid (thenB HB1.out hb); clear hb))
      go_ret2
      exact ⟨by rw [HE3.out, HR0.out 3 HE3.out (by decide), errV_hit (by decide)]; rfl, HB2.out⟩
    · have HE3 : Hid (ordE y n = 3) := Lib.hid (by rw [HG.out, if_pos (.inr (.inl g))])
      have d1 : decide (n < 1) = false := decide_eq_false g1
      have d2 : decide (366 < n) = true := decide_eq_true g
      go_enter Tryz.func81, Tryz.ntmps81
      go_wp2_with (first
        | (go_at_call 82; (with_reducible refine (CD.out _ (Below.refl _ _)).mono ?_); rintro e w1 ⟨rfl, hb⟩; have HB1 := Lib.hid hb; clear hb)
        | (go_at_call 109; (with_reducible refine (CL.out _ HB1.out).mono ?_); rintro e w2 ⟨rfl, hb⟩; have HB2 := Lib.hid (thenB HB1.out hb); clear hb))
      go_ret2
      exact ⟨by rw [HE3.out, HR0.out 3 HE3.out (by decide), errV_hit (by decide)]; rfl, HB2.out⟩
    · subst g
      cases L
      · have HE3 : Hid (ordE y 366 = 3) := Lib.hid (by rw [HG.out, if_pos (.inr (.inr ⟨rfl, rfl⟩))])
        go_enter Tryz.func81, Tryz.ntmps81
        go_wp2_with (first
          | (go_at_call 82; (with_reducible refine (CD.out _ (Below.refl _ _)).mono ?_); rintro e w1 ⟨rfl, hb⟩; have HB1 := Lib.hid hb; clear hb)
          | (go_at_call 109; (with_reducible refine (CL.out _ HB1.out).mono ?_); rintro e w2 ⟨rfl, hb⟩; have HB2 := Lib.hid (thenB HB1.out hb); clear hb))
        go_ret2
        exact ⟨by rw [HE3.out, HR0.out 3 HE3.out (by decide), errV_hit (by decide)]; rfl, HB2.out⟩
      · have HE3 : Hid (ordE y 366 = 0) := Lib.hid (by rw [HG.out, if_neg (by simp)])
        go_enter Tryz.func81, Tryz.ntmps81
        go_wp2_with (first
          | (go_at_call 82; (with_reducible refine (CD.out _ (Below.refl _ _)).mono ?_); rintro e w1 ⟨rfl, hb⟩; have HB1 := Lib.hid hb; clear hb)
          | (go_at_call 109; (with_reducible refine (CL.out _ HB1.out).mono ?_); rintro e w2 ⟨rfl, hb⟩; have HB2 := Lib.hid (thenB HB1.out hb); clear hb))
        go_ret2
        exact ⟨by rw [HE3.out, HR1.out HE3.out]; rfl, HB2.out⟩
    · have HE3 : Hid (ordE y n = 0) := Lib.hid (by rw [HG.out, if_neg (by omega)])
      have d1 : decide (n < 1) = false := decide_eq_false g1
      have d2 : decide (366 < n) = false := decide_eq_false g2
      have d3 : (n == 366) = false := by simpa using g
      go_enter Tryz.func81, Tryz.ntmps81
      go_wp2_with (first
        | (go_at_call 82; (with_reducible refine (CD.out _ (Below.refl _ _)).mono ?_); rintro e w1 ⟨rfl, hb⟩; have HB1 := Lib.hid hb; clear hb)
        | (go_at_call 109; (with_reducible refine (CL.out _ HB1.out).mono ?_); rintro e w2 ⟨rfl, hb⟩; have HB2 := Lib.hid (thenB HB1.out hb); clear hb))
      go_ret2
      exact ⟨by rw [HE3.out, HR1.out HE3.out]; rfl, HB2.out⟩
  · have HE3 : Hid (ordE y n = dayE 1 y 1 1) := Lib.hid (if_pos hE)
    have HR0 : Hid (ordR y n = 0) := Lib.hid (if_neg (by rw [HE3.out]; exact hE))
    have hd0 : dayR 1 y 1 1 = 0 := if_neg hE
    have HI := Lib.hid (errV_hit hE)
    rw [hd0, HI.out] at CD
    obtain ⟨x, hx⟩ : ∃ x, dayE 1 y 1 1 = x := ⟨_, rfl⟩
    rw [hx] at CD HI HE3
    clear hd0 hx hE hr
    go_enter Tryz.func81, Tryz.ntmps81
    go_wp2_with (go_at_call 82; (with_reducible refine (CD.out _ (Below.refl _ _)).mono ?_); rintro e w1 ⟨rfl, hb⟩; have HB1 := Lib.hid hb; clear hb)
    go_ret2
    exact ⟨by rw [HE3.out, HR0.out, HI.out]; rfl, HB1.out⟩
/-- What day answers. -/
def DayPost (b : Nat) (s : ByteArray) (P : DayP) (w : World) (e : Ending) (w' : World) : Prop :=
  ∃ D v, e = .returned (.tuple #[.int .i64 D, .bool P.wide, v]) ∧ (P.err = 0 → D = P.day) ∧ ErrIs w.heap.size P.err P.place v w' ∧ ScanAt b s (P.at_ : Int) w' ∧ Only b w w'
set_option maxRecDepth 100000 in
set_option maxHeartbeats 16000000 in
theorem cday_any (b : Nat) (s : ByteArray) (k : Nat) (w : World) (hr : RomanT w) (hrb : 2 < b) (h : ScanAt b s k w) (hk : k ≤ s.size) (hs : s.size ≤ 9223372036854775807) :
    Calls Tryz.prog 41 #[.pointer (some ⟨b, 0, none⟩)] w (DayPost b s (dayP s k) w) := by
  have S0 := Lib.hid h
  have O0 := Lib.hid (Only.refl b w)
  have HBW : Hid (b ≤ w.heap.size) := Lib.hid (Nat.le_of_lt h.1)
  have HRM := Lib.hid hr
  have HBR := Lib.hid hrb
  clear h hr hrb
  have hye := yrE_le hk
  have HBN : Hid (b < w.heap.size) := Lib.hid (by have := S0.out.1; exact this)
  rcases bool_or (yrB s k) with hY | hY
  · have CY : Hid (∀ w0, ScanAt b s (k : Int) w0 → Calls Tryz.prog 77 #[.pointer (some ⟨b, 0, none⟩)] w0 fun e w' => ∃ p : Nat, e = .returned (.tuple #[.int .i64 0, .iface 105 (.pointer (some ⟨p, 0, none⟩))]) ∧ AtBox w0.heap.size 5 ((yrE s k : Nat) : Int) (.iface 105 (.pointer (some ⟨p, 0, none⟩))) w' ∧ ScanAt b s ((yrE s k : Nat) : Int) w' ∧ Only b w0 w') := Lib.hid fun w0 h => (cyear_any b s k w0 h hk hs).mono fun e w' ⟨v, h1, h2, h3, h4⟩ => by
      rw [hY] at h1 h2
      rcases h2 with ⟨h2, -⟩ | ⟨-, h2, -⟩ | ⟨-, -, p, h5, h6⟩
      · exact absurd h2 five_ne
      · exact absurd h2 (by simp)
      · subst h5; exact ⟨p, h1, ⟨p, rfl, h6⟩, h3, h4⟩
    have HP : Hid (dayP s k = ⟨0, false, 5, ((yrE s k : Nat) : Int), yrE s k⟩) := Lib.hid (by simp [dayP, badD, hY])
    clear hye hY
    go_enter Tryz.func41, Tryz.ntmps41
    go_wp2_with (go_at_call 77; (with_reducible refine (CY.out _ S0.out).mono ?_); rintro e w1 ⟨p, rfl, hX, hS, hO⟩; have HXZ := Lib.hid hX; have HSZ := Lib.hid hS; have HOZ := Lib.hid hO; clear hX hS hO)
    go_ret3
    exact ⟨_, _, by rw [HP.out]; rfl, by rw [HP.out]; exact fun h => absurd h five_ne, by rw [HP.out]; exact .inr (.inr ⟨five_ne, Int.natCast_nonneg _, HXZ.out⟩), by rw [HP.out]; exact HSZ.out, HOZ.out⟩
  · have CY : Hid (∀ w0, ScanAt b s (k : Int) w0 → Calls Tryz.prog 77 #[.pointer (some ⟨b, 0, none⟩)] w0 fun e w' => e = .returned (.tuple #[.int .i64 (yrY s k), .nilIface]) ∧ ScanAt b s ((yrE s k : Nat) : Int) w' ∧ Only b w0 w') := Lib.hid fun w0 h => (cyear_any b s k w0 h hk hs).mono fun e w' ⟨v, h1, h2, h3, h4⟩ => by
      rw [hY] at h1 h2
      rcases h2 with ⟨-, -, h2⟩ | ⟨h2, -⟩ | ⟨h2, -⟩
      · subst h2; exact ⟨h1, h3, h4⟩
      · exact absurd rfl h2
      · exact absurd rfl h2
    go_enter Tryz.func41, Tryz.ntmps41
    go_wp2_with (first
      | (go_at_call 77; (with_reducible refine (CY.out _ S0.out).mono ?_); rintro e w1 ⟨rfl, hS, hO⟩; have S1 := Lib.hid hS; have O1 := Lib.hid hO; clear hS hO))
    rcases bool_or (isB s (yrE s k) 45) with h2 | h2
    · have C2 : Hid (∀ w0, ScanAt b s ((yrE s k : Nat) : Int) w0 → Calls Tryz.prog 42 #[.pointer (some ⟨b, 0, none⟩), .int .u8 45] w0 fun e w' => e = .returned (.bool false) ∧ ScanAt b s ((yrE s k : Nat) : Int) w' ∧ Only b w0 w') := Lib.hid fun w0 h => by
          have q := cis_any b s (yrE s k) 45 w0 h hs
          rw [h2, isK_no h2] at q
          exact q
      have F2 := Lib.hid h2; clear h2
      go_wp2_with (first
        | (go_at_call 42; (with_reducible refine (C2.out _ S1.out).mono ?_); rintro e w2 ⟨rfl, hS, hO⟩; have S2 := Lib.hid hS; have O2 := Lib.hid (O1.out.trans hO); clear hS hO))
      rcases bool_or (isB s (yrE s k) 87) with h3 | h3
      · have C3 : Hid (∀ w0, ScanAt b s ((yrE s k : Nat) : Int) w0 → Calls Tryz.prog 42 #[.pointer (some ⟨b, 0, none⟩), .int .u8 87] w0 fun e w' => e = .returned (.bool false) ∧ ScanAt b s ((yrE s k : Nat) : Int) w' ∧ Only b w0 w') := Lib.hid fun w0 h => by
            have q := cis_any b s (yrE s k) 87 w0 h hs
            rw [h3, isK_no h3] at q
            exact q
        have F3 := Lib.hid h3; clear h3
        go_wp2_with (first
          | (go_at_call 42; (with_reducible refine (C3.out _ S2.out).mono ?_); rintro e w3 ⟨rfl, hS, hO⟩; have S3 := Lib.hid hS; have O3 := Lib.hid (O2.out.trans hO); clear hS hO))
        have C4 : Hid (∀ w0, ScanAt b s ((yrE s k : Nat) : Int) w0 → Calls Tryz.prog 80 #[.pointer (some ⟨b, 0, none⟩)] w0 fun e w' => e = .returned (.int .i64 ((run_ s (yrE s k) : Nat) : Int)) ∧ ∃ q, w' = w0.drewN q) := Lib.hid fun w0 h => crun_any b s (yrE s k) w0 h hye hs
        by_cases g4 : run_ s (yrE s k) = 3
        · have hd4 := dg_yes (s := s) (k := yrE s k) (n := 3) (by omega)
          have C5 : Hid (∀ w0, ScanAt b s ((yrE s k : Nat) : Int) w0 → Calls Tryz.prog 78 #[.pointer (some ⟨b, 0, none⟩), .int .i64 3] w0 fun e w' => e = .returned (.tuple #[.int .i64 ((num_ s (yrE s k) 3 : Nat) : Int), .bool true]) ∧ ScanAt b s ((yrE s k + 3 : Nat) : Int) w' ∧ Only b w0 w') := Lib.hid fun w0 h => by
              have q := digits_any b s (yrE s k) 3 3 rfl w0 h hye hs (by omega)
              rw [hd4.1, hd4.2.1, hd4.2.2] at q
              exact q
          have C6 : Hid (∀ w0, Below w.heap.size w w0 ∨ Only b w w0 → Calls Tryz.prog 81 #[.int .i64 (yrY s k), .int .i64 ((num_ s (yrE s k) 3 : Nat) : Int)] w0 fun e w' => e = .returned (.tuple #[.int .i64 (ordR (yrY s k) ((num_ s (yrE s k) 3 : Nat) : Int)), errV (ordE (yrY s k) ((num_ s (yrE s k) 3 : Nat) : Int))]) ∧ Below w0.heap.size w0 w') := Lib.hid fun w0 h => ordinal_any _ _ w0 (by rcases h with h | h; exact HRM.out.call h; exact HRM.out.only h HBR.out) (yrY_bd s k) (by have := num_lt (s := s) (k := yrE s k) (n := 3) (by omega); simp at this; omega)
          have g4b : ((run_ s (yrE s k) : Int) == 3) = true := by rw [g4]; rfl
          obtain ⟨RN, hRN⟩ : ∃ R, run_ s (yrE s k) = R := ⟨_, rfl⟩; rw [hRN] at C4 g4b
          have HP : Hid (dayP s k = ⟨ordR (yrY s k) ((num_ s (yrE s k) 3 : Nat) : Int), false, ordE (yrY s k) ((num_ s (yrE s k) 3 : Nat) : Int), -1, yrE s k + 3⟩) := Lib.hid (by simp [dayP, dayA, ordP, hY, F2.out, isK_no F2.out, F3.out, g4])
          go_wp2_with (first
            | (go_at_call 80; (with_reducible refine (C4.out _ S3.out).mono ?_); rintro e w4 ⟨rfl, q, rfl⟩; have S4 := Lib.hid (S3.out.drewN q); have O4 := Lib.hid (O3.out.drewN q))
            | (go_at_call 78; (with_reducible refine (C5.out _ S4.out).mono ?_); rintro e w5 ⟨rfl, hS, hO⟩; have S5 := Lib.hid hS; have O5 := Lib.hid (O4.out.trans hO); clear hS hO)
            | (go_at_call 81; (with_reducible refine (C6.out _ (.inr O5.out)).mono ?_); rintro e w6 ⟨rfl, hb⟩; have S6 := Lib.hid (S5.out.call hb); have O6 := Lib.hid (O5.out.then hb HBW.out); clear hb))
          go_ret3
          exact ⟨_, _, by rw [HP.out]; rfl, by rw [HP.out]; exact fun _ => rfl, by rw [HP.out]; exact ErrIs.ofE, by rw [HP.out]; exact S6.out, O6.out⟩
        · have g4b : ((run_ s (yrE s k) : Int) == 3) = false := by simp; omega
          obtain ⟨RN, hRN⟩ : ∃ R, run_ s (yrE s k) = R := ⟨_, rfl⟩; rw [hRN] at C4 g4b
          go_wp2_with (first
            | (go_at_call 80; (with_reducible refine (C4.out _ S3.out).mono ?_); rintro e w4 ⟨rfl, q, rfl⟩; have S4 := Lib.hid (S3.out.drewN q); have O4 := Lib.hid (O3.out.drewN q)))
          rcases bool_or (dgB s (yrE s k) 2) with h7 | h7
          · have C7 : Hid (∀ w0, ScanAt b s ((yrE s k : Nat) : Int) w0 → Calls Tryz.prog 78 #[.pointer (some ⟨b, 0, none⟩), .int .i64 2] w0 fun e w' => e = .returned (.tuple #[.int .i64 ((dgN s (yrE s k) 2 : Nat) : Int), .bool false]) ∧ ScanAt b s ((dgK s (yrE s k) 2 : Nat) : Int) w' ∧ Only b w0 w') := Lib.hid fun w0 h => by
                have q := digits_any b s (yrE s k) 2 2 rfl w0 h hye hs (by omega)
                rw [h7] at q
                exact q
            have hx7 := dgN_lt s (yrE s k) 2
            have F7 := Lib.hid h7; clear h7
            have C8 : Hid (∀ w0, ScanAt b s ((dgK s (yrE s k) 2 : Nat) : Int) w0 → Calls Tryz.prog 45 #[.pointer (some ⟨b, 0, none⟩)] w0 fun e w' => ∃ p : Nat, e = .returned (.iface 105 (.pointer (some ⟨p, 0, none⟩))) ∧ AtBox w0.heap.size 5 ((dgK s (yrE s k) 2 : Nat) : Int) (.iface 105 (.pointer (some ⟨p, 0, none⟩))) w' ∧ Below w0.heap.size w0 w') := Lib.hid fun w0 h => bad_any b s (dgK s (yrE s k) 2) w0 h
            have HP : Hid (dayP s k = ⟨0, false, 5, ((dgK s (yrE s k) 2 : Nat) : Int), dgK s (yrE s k) 2⟩) := Lib.hid (by simp [dayP, dayA, mdP, badD, hY, F2.out, isK_no F2.out, F3.out, g4, F7.out])
            go_wp2_with (first
              | (go_at_call 78; (with_reducible refine (C7.out _ S4.out).mono ?_); rintro e w7 ⟨rfl, hS, hO⟩; have S7 := Lib.hid hS; have O7 := Lib.hid (O4.out.trans hO); clear hS hO)
              | (go_at_call 45; (with_reducible refine (C8.out _ S7.out).mono ?_); rintro e wz ⟨p, rfl, hX, hb⟩; have HXZ := Lib.hid hX; have HSZ := Lib.hid (S7.out.call hb); have HOZ := Lib.hid (O7.out.then hb HBW.out); have HLZ := Lib.hid O7.out.1.size; clear hX hb))
            go_ret3
            exact ⟨_, _, by rw [HP.out]; rfl, by rw [HP.out]; exact fun h => absurd h five_ne, by rw [HP.out]; exact .inr (.inr ⟨five_ne, Int.natCast_nonneg _, HXZ.out.mono HLZ.out⟩), by rw [HP.out]; exact HSZ.out, HOZ.out⟩
          · have C7 : Hid (∀ w0, ScanAt b s ((yrE s k : Nat) : Int) w0 → Calls Tryz.prog 78 #[.pointer (some ⟨b, 0, none⟩), .int .i64 2] w0 fun e w' => e = .returned (.tuple #[.int .i64 ((dgN s (yrE s k) 2 : Nat) : Int), .bool true]) ∧ ScanAt b s ((dgK s (yrE s k) 2 : Nat) : Int) w' ∧ Only b w0 w') := Lib.hid fun w0 h => by
                have q := digits_any b s (yrE s k) 2 2 rfl w0 h hye hs (by omega)
                rw [h7] at q
                exact q
            have hx7 := dgN_lt s (yrE s k) 2
            have F7 := Lib.hid h7; clear h7
            go_wp2_with (first
              | (go_at_call 78; (with_reducible refine (C7.out _ S4.out).mono ?_); rintro e w7 ⟨rfl, hS, hO⟩; have S7 := Lib.hid hS; have O7 := Lib.hid (O4.out.trans hO); clear hS hO))
            rcases bool_or (dgB s (dgK s (yrE s k) 2) 2) with h9 | h9
            · have C9 : Hid (∀ w0, ScanAt b s ((dgK s (yrE s k) 2 : Nat) : Int) w0 → Calls Tryz.prog 78 #[.pointer (some ⟨b, 0, none⟩), .int .i64 2] w0 fun e w' => e = .returned (.tuple #[.int .i64 ((dgN s (dgK s (yrE s k) 2) 2 : Nat) : Int), .bool false]) ∧ ScanAt b s ((dgK s (dgK s (yrE s k) 2) 2 : Nat) : Int) w' ∧ Only b w0 w') := Lib.hid fun w0 h => by
                  have q := digits_any b s (dgK s (yrE s k) 2) 2 2 rfl w0 h (dgK_le hye) hs (by omega)
                  rw [h9] at q
                  exact q
              have hx9 := dgN_lt s (dgK s (yrE s k) 2) 2
              have F9 := Lib.hid h9; clear h9
              have C10 : Hid (∀ w0, ScanAt b s ((dgK s (dgK s (yrE s k) 2) 2 : Nat) : Int) w0 → Calls Tryz.prog 45 #[.pointer (some ⟨b, 0, none⟩)] w0 fun e w' => ∃ p : Nat, e = .returned (.iface 105 (.pointer (some ⟨p, 0, none⟩))) ∧ AtBox w0.heap.size 5 ((dgK s (dgK s (yrE s k) 2) 2 : Nat) : Int) (.iface 105 (.pointer (some ⟨p, 0, none⟩))) w' ∧ Below w0.heap.size w0 w') := Lib.hid fun w0 h => bad_any b s (dgK s (dgK s (yrE s k) 2) 2) w0 h
              have HP : Hid (dayP s k = ⟨0, false, 5, ((dgK s (dgK s (yrE s k) 2) 2 : Nat) : Int), dgK s (dgK s (yrE s k) 2) 2⟩) := Lib.hid (by simp [dayP, dayA, mdP, badD, hY, F2.out, isK_no F2.out, F3.out, g4, F7.out, F9.out])
              go_wp2_with (first
                | (go_at_call 78; (with_reducible refine (C9.out _ S7.out).mono ?_); rintro e w9 ⟨rfl, hS, hO⟩; have S9 := Lib.hid hS; have O9 := Lib.hid (O7.out.trans hO); clear hS hO)
                | (go_at_call 45; (with_reducible refine (C10.out _ S9.out).mono ?_); rintro e wz ⟨p, rfl, hX, hb⟩; have HXZ := Lib.hid hX; have HSZ := Lib.hid (S9.out.call hb); have HOZ := Lib.hid (O9.out.then hb HBW.out); have HLZ := Lib.hid O9.out.1.size; clear hX hb))
              go_ret3
              exact ⟨_, _, by rw [HP.out]; rfl, by rw [HP.out]; exact fun h => absurd h five_ne, by rw [HP.out]; exact .inr (.inr ⟨five_ne, Int.natCast_nonneg _, HXZ.out.mono HLZ.out⟩), by rw [HP.out]; exact HSZ.out, HOZ.out⟩
            · have C9 : Hid (∀ w0, ScanAt b s ((dgK s (yrE s k) 2 : Nat) : Int) w0 → Calls Tryz.prog 78 #[.pointer (some ⟨b, 0, none⟩), .int .i64 2] w0 fun e w' => e = .returned (.tuple #[.int .i64 ((dgN s (dgK s (yrE s k) 2) 2 : Nat) : Int), .bool true]) ∧ ScanAt b s ((dgK s (dgK s (yrE s k) 2) 2 : Nat) : Int) w' ∧ Only b w0 w') := Lib.hid fun w0 h => by
                  have q := digits_any b s (dgK s (yrE s k) 2) 2 2 rfl w0 h (dgK_le hye) hs (by omega)
                  rw [h9] at q
                  exact q
              have hx9 := dgN_lt s (dgK s (yrE s k) 2) 2
              have F9 := Lib.hid h9; clear h9
              have C11 : Hid (∀ w0, Only b w w0 → Calls Tryz.prog 82 #[.agg #[.int .i64 1, .int .i64 (yrY s k), .int .i64 ((dgN s (yrE s k) 2 : Nat) : Int), .int .i64 ((dgN s (dgK s (yrE s k) 2) 2 : Nat) : Int)]] w0 fun e w' => e = .returned (.tuple #[.int .i64 (dayR 1 (yrY s k) ((dgN s (yrE s k) 2 : Nat) : Int) ((dgN s (dgK s (yrE s k) 2) 2 : Nat) : Int)), errV (dayE 1 (yrY s k) ((dgN s (yrE s k) 2 : Nat) : Int) ((dgN s (dgK s (yrE s k) 2) 2 : Nat) : Int))]) ∧ Below w0.heap.size w0 w') := Lib.hid fun w0 h => day_all 1 _ _ _ w0 (HRM.out.only h HBR.out)
              have HP : Hid (dayP s k = ⟨dayR 1 (yrY s k) ((dgN s (yrE s k) 2 : Nat) : Int) ((dgN s (dgK s (yrE s k) 2) 2 : Nat) : Int), false, dayE 1 (yrY s k) ((dgN s (yrE s k) 2 : Nat) : Int) ((dgN s (dgK s (yrE s k) 2) 2 : Nat) : Int), -1, dgK s (dgK s (yrE s k) 2) 2⟩) := Lib.hid (by simp [dayP, dayA, mdP, hY, F2.out, isK_no F2.out, F3.out, g4, F7.out, F9.out])
              go_wp2_with (first
                | (go_at_call 78; (with_reducible refine (C9.out _ S7.out).mono ?_); rintro e w9 ⟨rfl, hS, hO⟩; have S9 := Lib.hid hS; have O9 := Lib.hid (O7.out.trans hO); clear hS hO)
                | (go_at_call 82; (with_reducible refine (C11.out _ O9.out).mono ?_); rintro e w11 ⟨rfl, hb⟩; have S11 := Lib.hid (S9.out.call hb); have O11 := Lib.hid (O9.out.then hb HBW.out); clear hb))
              go_ret3
              exact ⟨_, _, by rw [HP.out]; rfl, by rw [HP.out]; exact fun _ => rfl, by rw [HP.out]; exact ErrIs.ofE, by rw [HP.out]; exact S11.out, O11.out⟩
      · have C3 : Hid (∀ w0, ScanAt b s ((yrE s k : Nat) : Int) w0 → Calls Tryz.prog 42 #[.pointer (some ⟨b, 0, none⟩), .int .u8 87] w0 fun e w' => e = .returned (.bool true) ∧ ScanAt b s ((yrE s k + 1 : Nat) : Int) w' ∧ Only b w0 w') := Lib.hid fun w0 h => by
            have q := cis_any b s (yrE s k) 87 w0 h hs
            rw [h3, isK_yes h3] at q
            exact q
        have F3 := Lib.hid h3; clear h3
        go_wp2_with (first
          | (go_at_call 42; (with_reducible refine (C3.out _ S2.out).mono ?_); rintro e w3 ⟨rfl, hS, hO⟩; have S3 := Lib.hid hS; have O3 := Lib.hid (O2.out.trans hO); clear hS hO))
        rcases bool_or (dgB s (yrE s k + 1) 2) with h12 | h12
        · have C12 : Hid (∀ w0, ScanAt b s ((yrE s k + 1 : Nat) : Int) w0 → Calls Tryz.prog 78 #[.pointer (some ⟨b, 0, none⟩), .int .i64 2] w0 fun e w' => e = .returned (.tuple #[.int .i64 ((dgN s (yrE s k + 1) 2 : Nat) : Int), .bool false]) ∧ ScanAt b s ((dgK s (yrE s k + 1) 2 : Nat) : Int) w' ∧ Only b w0 w') := Lib.hid fun w0 h => by
              have q := digits_any b s (yrE s k + 1) 2 2 rfl w0 h (isB_lt F3.out) hs (by omega)
              rw [h12] at q
              exact q
          have hx12 := dgN_lt s (yrE s k + 1) 2
          have F12 := Lib.hid h12; clear h12
          have C13 : Hid (∀ w0, ScanAt b s ((dgK s (yrE s k + 1) 2 : Nat) : Int) w0 → Calls Tryz.prog 45 #[.pointer (some ⟨b, 0, none⟩)] w0 fun e w' => ∃ p : Nat, e = .returned (.iface 105 (.pointer (some ⟨p, 0, none⟩))) ∧ AtBox w0.heap.size 5 ((dgK s (yrE s k + 1) 2 : Nat) : Int) (.iface 105 (.pointer (some ⟨p, 0, none⟩))) w' ∧ Below w0.heap.size w0 w') := Lib.hid fun w0 h => bad_any b s (dgK s (yrE s k + 1) 2) w0 h
          have HP : Hid (dayP s k = ⟨0, false, 5, ((dgK s (yrE s k + 1) 2 : Nat) : Int), dgK s (yrE s k + 1) 2⟩) := Lib.hid (by simp [dayP, dayA, wkP, badD, hY, F2.out, isK_no F2.out, F3.out, F12.out])
          go_wp2_with (first
            | (go_at_call 78; (with_reducible refine (C12.out _ S3.out).mono ?_); rintro e w12 ⟨rfl, hS, hO⟩; have S12 := Lib.hid hS; have O12 := Lib.hid (O3.out.trans hO); clear hS hO)
            | (go_at_call 45; (with_reducible refine (C13.out _ S12.out).mono ?_); rintro e wz ⟨p, rfl, hX, hb⟩; have HXZ := Lib.hid hX; have HSZ := Lib.hid (S12.out.call hb); have HOZ := Lib.hid (O12.out.then hb HBW.out); have HLZ := Lib.hid O12.out.1.size; clear hX hb))
          go_ret3
          exact ⟨_, _, by rw [HP.out]; rfl, by rw [HP.out]; exact fun h => absurd h five_ne, by rw [HP.out]; exact .inr (.inr ⟨five_ne, Int.natCast_nonneg _, HXZ.out.mono HLZ.out⟩), by rw [HP.out]; exact HSZ.out, HOZ.out⟩
        · have C12 : Hid (∀ w0, ScanAt b s ((yrE s k + 1 : Nat) : Int) w0 → Calls Tryz.prog 78 #[.pointer (some ⟨b, 0, none⟩), .int .i64 2] w0 fun e w' => e = .returned (.tuple #[.int .i64 ((dgN s (yrE s k + 1) 2 : Nat) : Int), .bool true]) ∧ ScanAt b s ((dgK s (yrE s k + 1) 2 : Nat) : Int) w' ∧ Only b w0 w') := Lib.hid fun w0 h => by
              have q := digits_any b s (yrE s k + 1) 2 2 rfl w0 h (isB_lt F3.out) hs (by omega)
              rw [h12] at q
              exact q
          have hx12 := dgN_lt s (yrE s k + 1) 2
          have F12 := Lib.hid h12; clear h12
          go_wp2_with (first
            | (go_at_call 78; (with_reducible refine (C12.out _ S3.out).mono ?_); rintro e w12 ⟨rfl, hS, hO⟩; have S12 := Lib.hid hS; have O12 := Lib.hid (O3.out.trans hO); clear hS hO))
          rcases bool_or (dgB s (dgK s (yrE s k + 1) 2) 1) with h14 | h14
          · have C14 : Hid (∀ w0, ScanAt b s ((dgK s (yrE s k + 1) 2 : Nat) : Int) w0 → Calls Tryz.prog 78 #[.pointer (some ⟨b, 0, none⟩), .int .i64 1] w0 fun e w' => e = .returned (.tuple #[.int .i64 ((dgN s (dgK s (yrE s k + 1) 2) 1 : Nat) : Int), .bool false]) ∧ ScanAt b s ((dgK s (dgK s (yrE s k + 1) 2) 1 : Nat) : Int) w' ∧ Only b w0 w') := Lib.hid fun w0 h => by
                have q := digits_any b s (dgK s (yrE s k + 1) 2) 1 1 rfl w0 h (dgK_le (isB_lt F3.out)) hs (by omega)
                rw [h14] at q
                exact q
            have hx14 := dgN_lt s (dgK s (yrE s k + 1) 2) 1
            have F14 := Lib.hid h14; clear h14
            have C15 : Hid (∀ w0, ScanAt b s ((dgK s (dgK s (yrE s k + 1) 2) 1 : Nat) : Int) w0 → Calls Tryz.prog 45 #[.pointer (some ⟨b, 0, none⟩)] w0 fun e w' => ∃ p : Nat, e = .returned (.iface 105 (.pointer (some ⟨p, 0, none⟩))) ∧ AtBox w0.heap.size 5 ((dgK s (dgK s (yrE s k + 1) 2) 1 : Nat) : Int) (.iface 105 (.pointer (some ⟨p, 0, none⟩))) w' ∧ Below w0.heap.size w0 w') := Lib.hid fun w0 h => bad_any b s (dgK s (dgK s (yrE s k + 1) 2) 1) w0 h
            have HP : Hid (dayP s k = ⟨0, false, 5, ((dgK s (dgK s (yrE s k + 1) 2) 1 : Nat) : Int), dgK s (dgK s (yrE s k + 1) 2) 1⟩) := Lib.hid (by simp [dayP, dayA, wkP, badD, hY, F2.out, isK_no F2.out, F3.out, F12.out, F14.out])
            go_wp2_with (first
              | (go_at_call 78; (with_reducible refine (C14.out _ S12.out).mono ?_); rintro e w14 ⟨rfl, hS, hO⟩; have S14 := Lib.hid hS; have O14 := Lib.hid (O12.out.trans hO); clear hS hO)
              | (go_at_call 45; (with_reducible refine (C15.out _ S14.out).mono ?_); rintro e wz ⟨p, rfl, hX, hb⟩; have HXZ := Lib.hid hX; have HSZ := Lib.hid (S14.out.call hb); have HOZ := Lib.hid (O14.out.then hb HBW.out); have HLZ := Lib.hid O14.out.1.size; clear hX hb))
            go_ret3
            exact ⟨_, _, by rw [HP.out]; rfl, by rw [HP.out]; exact fun h => absurd h five_ne, by rw [HP.out]; exact .inr (.inr ⟨five_ne, Int.natCast_nonneg _, HXZ.out.mono HLZ.out⟩), by rw [HP.out]; exact HSZ.out, HOZ.out⟩
          · have C14 : Hid (∀ w0, ScanAt b s ((dgK s (yrE s k + 1) 2 : Nat) : Int) w0 → Calls Tryz.prog 78 #[.pointer (some ⟨b, 0, none⟩), .int .i64 1] w0 fun e w' => e = .returned (.tuple #[.int .i64 ((dgN s (dgK s (yrE s k + 1) 2) 1 : Nat) : Int), .bool true]) ∧ ScanAt b s ((dgK s (dgK s (yrE s k + 1) 2) 1 : Nat) : Int) w' ∧ Only b w0 w') := Lib.hid fun w0 h => by
                have q := digits_any b s (dgK s (yrE s k + 1) 2) 1 1 rfl w0 h (dgK_le (isB_lt F3.out)) hs (by omega)
                rw [h14] at q
                exact q
            have hx14 := dgN_lt s (dgK s (yrE s k + 1) 2) 1
            have F14 := Lib.hid h14; clear h14
            have C16 : Hid (∀ w0, Calls Tryz.prog 79 #[.int .i64 (yrY s k), .int .i64 ((dgN s (yrE s k + 1) 2 : Nat) : Int), .int .i64 ((dgN s (dgK s (yrE s k + 1) 2) 1 : Nat) : Int)] w0 fun e w' => e = .returned (.tuple #[.int .i64 (owR (yrY s k) ((dgN s (yrE s k + 1) 2 : Nat) : Int) ((dgN s (dgK s (yrE s k + 1) 2) 1 : Nat) : Int)), errV (owE (yrY s k) ((dgN s (yrE s k + 1) 2 : Nat) : Int) ((dgN s (dgK s (yrE s k + 1) 2) 1 : Nat) : Int))]) ∧ w0 = w') := Lib.hid fun w0 => (ofWeek_all _ _ _ w0).mono fun e w' ⟨r, x, h1, h2, h3⟩ => by obtain ⟨rfl, rfl⟩ := h2.is; exact ⟨h1, h3⟩
            have HP : Hid (dayP s k = ⟨owR (yrY s k) ((dgN s (yrE s k + 1) 2 : Nat) : Int) ((dgN s (dgK s (yrE s k + 1) 2) 1 : Nat) : Int), false, owE (yrY s k) ((dgN s (yrE s k + 1) 2 : Nat) : Int) ((dgN s (dgK s (yrE s k + 1) 2) 1 : Nat) : Int), -1, dgK s (dgK s (yrE s k + 1) 2) 1⟩) := Lib.hid (by simp [dayP, dayA, wkP, hY, F2.out, isK_no F2.out, F3.out, F12.out, F14.out])
            go_wp2_with (first
              | (go_at_call 78; (with_reducible refine (C14.out _ S12.out).mono ?_); rintro e w14 ⟨rfl, hS, hO⟩; have S14 := Lib.hid hS; have O14 := Lib.hid (O12.out.trans hO); clear hS hO)
              | (go_at_call 79; (with_reducible refine (C16.out _).mono ?_); rintro e wq ⟨rfl, rfl⟩))
            go_ret3
            exact ⟨_, _, by rw [HP.out]; rfl, by rw [HP.out]; exact fun _ => rfl, by rw [HP.out]; exact ErrIs.ofE, by rw [HP.out]; exact S14.out, O14.out⟩
    · have C2 : Hid (∀ w0, ScanAt b s ((yrE s k : Nat) : Int) w0 → Calls Tryz.prog 42 #[.pointer (some ⟨b, 0, none⟩), .int .u8 45] w0 fun e w' => e = .returned (.bool true) ∧ ScanAt b s ((yrE s k + 1 : Nat) : Int) w' ∧ Only b w0 w') := Lib.hid fun w0 h => by
          have q := cis_any b s (yrE s k) 45 w0 h hs
          rw [h2, isK_yes h2] at q
          exact q
      have F2 := Lib.hid h2; clear h2
      go_wp2_with (first
        | (go_at_call 42; (with_reducible refine (C2.out _ S1.out).mono ?_); rintro e w2 ⟨rfl, hS, hO⟩; have S2 := Lib.hid hS; have O2 := Lib.hid (O1.out.trans hO); clear hS hO))
      rcases bool_or (isB s (yrE s k + 1) 87) with h17 | h17
      · have C17 : Hid (∀ w0, ScanAt b s ((yrE s k + 1 : Nat) : Int) w0 → Calls Tryz.prog 42 #[.pointer (some ⟨b, 0, none⟩), .int .u8 87] w0 fun e w' => e = .returned (.bool false) ∧ ScanAt b s ((yrE s k + 1 : Nat) : Int) w' ∧ Only b w0 w') := Lib.hid fun w0 h => by
            have q := cis_any b s (yrE s k + 1) 87 w0 h hs
            rw [h17, isK_no h17] at q
            exact q
        have F17 := Lib.hid h17; clear h17
        go_wp2_with (first
          | (go_at_call 42; (with_reducible refine (C17.out _ S2.out).mono ?_); rintro e w17 ⟨rfl, hS, hO⟩; have S17 := Lib.hid hS; have O17 := Lib.hid (O2.out.trans hO); clear hS hO))
        have C18 : Hid (∀ w0, ScanAt b s ((yrE s k + 1 : Nat) : Int) w0 → Calls Tryz.prog 80 #[.pointer (some ⟨b, 0, none⟩)] w0 fun e w' => e = .returned (.int .i64 ((run_ s (yrE s k + 1) : Nat) : Int)) ∧ ∃ q, w' = w0.drewN q) := Lib.hid fun w0 h => crun_any b s (yrE s k + 1) w0 h (isB_lt F2.out) hs
        by_cases g18 : run_ s (yrE s k + 1) = 3
        · have hd18 := dg_yes (s := s) (k := yrE s k + 1) (n := 3) (by omega)
          have C19 : Hid (∀ w0, ScanAt b s ((yrE s k + 1 : Nat) : Int) w0 → Calls Tryz.prog 78 #[.pointer (some ⟨b, 0, none⟩), .int .i64 3] w0 fun e w' => e = .returned (.tuple #[.int .i64 ((num_ s (yrE s k + 1) 3 : Nat) : Int), .bool true]) ∧ ScanAt b s ((yrE s k + 1 + 3 : Nat) : Int) w' ∧ Only b w0 w') := Lib.hid fun w0 h => by
              have q := digits_any b s (yrE s k + 1) 3 3 rfl w0 h (isB_lt F2.out) hs (by omega)
              rw [hd18.1, hd18.2.1, hd18.2.2] at q
              exact q
          have C20 : Hid (∀ w0, Below w.heap.size w w0 ∨ Only b w w0 → Calls Tryz.prog 81 #[.int .i64 (yrY s k), .int .i64 ((num_ s (yrE s k + 1) 3 : Nat) : Int)] w0 fun e w' => e = .returned (.tuple #[.int .i64 (ordR (yrY s k) ((num_ s (yrE s k + 1) 3 : Nat) : Int)), errV (ordE (yrY s k) ((num_ s (yrE s k + 1) 3 : Nat) : Int))]) ∧ Below w0.heap.size w0 w') := Lib.hid fun w0 h => ordinal_any _ _ w0 (by rcases h with h | h; exact HRM.out.call h; exact HRM.out.only h HBR.out) (yrY_bd s k) (by have := num_lt (s := s) (k := yrE s k + 1) (n := 3) (by omega); simp at this; omega)
          have g18b : ((run_ s (yrE s k + 1) : Int) == 3) = true := by rw [g18]; rfl
          obtain ⟨RN, hRN⟩ : ∃ R, run_ s (yrE s k + 1) = R := ⟨_, rfl⟩; rw [hRN] at C18 g18b
          have HP : Hid (dayP s k = ⟨ordR (yrY s k) ((num_ s (yrE s k + 1) 3 : Nat) : Int), true, ordE (yrY s k) ((num_ s (yrE s k + 1) 3 : Nat) : Int), -1, yrE s k + 1 + 3⟩) := Lib.hid (by simp [dayP, dayA, ordP, hY, F2.out, isK_yes F2.out, F17.out, g18])
          go_wp2_with (first
            | (go_at_call 80; (with_reducible refine (C18.out _ S17.out).mono ?_); rintro e w18 ⟨rfl, q, rfl⟩; have S18 := Lib.hid (S17.out.drewN q); have O18 := Lib.hid (O17.out.drewN q))
            | (go_at_call 78; (with_reducible refine (C19.out _ S18.out).mono ?_); rintro e w19 ⟨rfl, hS, hO⟩; have S19 := Lib.hid hS; have O19 := Lib.hid (O18.out.trans hO); clear hS hO)
            | (go_at_call 81; (with_reducible refine (C20.out _ (.inr O19.out)).mono ?_); rintro e w20 ⟨rfl, hb⟩; have S20 := Lib.hid (S19.out.call hb); have O20 := Lib.hid (O19.out.then hb HBW.out); clear hb))
          go_ret3
          exact ⟨_, _, by rw [HP.out]; rfl, by rw [HP.out]; exact fun _ => rfl, by rw [HP.out]; exact ErrIs.ofE, by rw [HP.out]; exact S20.out, O20.out⟩
        · have g18b : ((run_ s (yrE s k + 1) : Int) == 3) = false := by simp; omega
          obtain ⟨RN, hRN⟩ : ∃ R, run_ s (yrE s k + 1) = R := ⟨_, rfl⟩; rw [hRN] at C18 g18b
          go_wp2_with (first
            | (go_at_call 80; (with_reducible refine (C18.out _ S17.out).mono ?_); rintro e w18 ⟨rfl, q, rfl⟩; have S18 := Lib.hid (S17.out.drewN q); have O18 := Lib.hid (O17.out.drewN q)))
          rcases bool_or (dgB s (yrE s k + 1) 2) with h21 | h21
          · have C21 : Hid (∀ w0, ScanAt b s ((yrE s k + 1 : Nat) : Int) w0 → Calls Tryz.prog 78 #[.pointer (some ⟨b, 0, none⟩), .int .i64 2] w0 fun e w' => e = .returned (.tuple #[.int .i64 ((dgN s (yrE s k + 1) 2 : Nat) : Int), .bool false]) ∧ ScanAt b s ((dgK s (yrE s k + 1) 2 : Nat) : Int) w' ∧ Only b w0 w') := Lib.hid fun w0 h => by
                have q := digits_any b s (yrE s k + 1) 2 2 rfl w0 h (isB_lt F2.out) hs (by omega)
                rw [h21] at q
                exact q
            have hx21 := dgN_lt s (yrE s k + 1) 2
            have F21 := Lib.hid h21; clear h21
            have C22 : Hid (∀ w0, ScanAt b s ((dgK s (yrE s k + 1) 2 : Nat) : Int) w0 → Calls Tryz.prog 45 #[.pointer (some ⟨b, 0, none⟩)] w0 fun e w' => ∃ p : Nat, e = .returned (.iface 105 (.pointer (some ⟨p, 0, none⟩))) ∧ AtBox w0.heap.size 5 ((dgK s (yrE s k + 1) 2 : Nat) : Int) (.iface 105 (.pointer (some ⟨p, 0, none⟩))) w' ∧ Below w0.heap.size w0 w') := Lib.hid fun w0 h => bad_any b s (dgK s (yrE s k + 1) 2) w0 h
            have HP : Hid (dayP s k = ⟨0, true, 5, ((dgK s (yrE s k + 1) 2 : Nat) : Int), dgK s (yrE s k + 1) 2⟩) := Lib.hid (by simp [dayP, dayA, mdP, badD, hY, F2.out, isK_yes F2.out, F17.out, g18, F21.out])
            go_wp2_with (first
              | (go_at_call 78; (with_reducible refine (C21.out _ S18.out).mono ?_); rintro e w21 ⟨rfl, hS, hO⟩; have S21 := Lib.hid hS; have O21 := Lib.hid (O18.out.trans hO); clear hS hO)
              | (go_at_call 45; (with_reducible refine (C22.out _ S21.out).mono ?_); rintro e wz ⟨p, rfl, hX, hb⟩; have HXZ := Lib.hid hX; have HSZ := Lib.hid (S21.out.call hb); have HOZ := Lib.hid (O21.out.then hb HBW.out); have HLZ := Lib.hid O21.out.1.size; clear hX hb))
            go_ret3
            exact ⟨_, _, by rw [HP.out]; rfl, by rw [HP.out]; exact fun h => absurd h five_ne, by rw [HP.out]; exact .inr (.inr ⟨five_ne, Int.natCast_nonneg _, HXZ.out.mono HLZ.out⟩), by rw [HP.out]; exact HSZ.out, HOZ.out⟩
          · have C21 : Hid (∀ w0, ScanAt b s ((yrE s k + 1 : Nat) : Int) w0 → Calls Tryz.prog 78 #[.pointer (some ⟨b, 0, none⟩), .int .i64 2] w0 fun e w' => e = .returned (.tuple #[.int .i64 ((dgN s (yrE s k + 1) 2 : Nat) : Int), .bool true]) ∧ ScanAt b s ((dgK s (yrE s k + 1) 2 : Nat) : Int) w' ∧ Only b w0 w') := Lib.hid fun w0 h => by
                have q := digits_any b s (yrE s k + 1) 2 2 rfl w0 h (isB_lt F2.out) hs (by omega)
                rw [h21] at q
                exact q
            have hx21 := dgN_lt s (yrE s k + 1) 2
            have F21 := Lib.hid h21; clear h21
            go_wp2_with (first
              | (go_at_call 78; (with_reducible refine (C21.out _ S18.out).mono ?_); rintro e w21 ⟨rfl, hS, hO⟩; have S21 := Lib.hid hS; have O21 := Lib.hid (O18.out.trans hO); clear hS hO))
            rcases bool_or (isB s (dgK s (yrE s k + 1) 2) 45) with h23 | h23
            · have C23 : Hid (∀ w0, ScanAt b s ((dgK s (yrE s k + 1) 2 : Nat) : Int) w0 → Calls Tryz.prog 42 #[.pointer (some ⟨b, 0, none⟩), .int .u8 45] w0 fun e w' => e = .returned (.bool false) ∧ ScanAt b s ((dgK s (yrE s k + 1) 2 : Nat) : Int) w' ∧ Only b w0 w') := Lib.hid fun w0 h => by
                  have q := cis_any b s (dgK s (yrE s k + 1) 2) 45 w0 h hs
                  rw [h23, isK_no h23] at q
                  exact q
              have F23 := Lib.hid h23; clear h23
              have C24 : Hid (∀ w0, ScanAt b s ((dgK s (yrE s k + 1) 2 : Nat) : Int) w0 → Calls Tryz.prog 45 #[.pointer (some ⟨b, 0, none⟩)] w0 fun e w' => ∃ p : Nat, e = .returned (.iface 105 (.pointer (some ⟨p, 0, none⟩))) ∧ AtBox w0.heap.size 5 ((dgK s (yrE s k + 1) 2 : Nat) : Int) (.iface 105 (.pointer (some ⟨p, 0, none⟩))) w' ∧ Below w0.heap.size w0 w') := Lib.hid fun w0 h => bad_any b s (dgK s (yrE s k + 1) 2) w0 h
              have HP : Hid (dayP s k = ⟨0, true, 5, ((dgK s (yrE s k + 1) 2 : Nat) : Int), dgK s (yrE s k + 1) 2⟩) := Lib.hid (by simp [dayP, dayA, mdP, badD, hY, F2.out, isK_yes F2.out, F17.out, g18, F21.out, F23.out])
              go_wp2_with (first
                | (go_at_call 42; (with_reducible refine (C23.out _ S21.out).mono ?_); rintro e w23 ⟨rfl, hS, hO⟩; have S23 := Lib.hid hS; have O23 := Lib.hid (O21.out.trans hO); clear hS hO)
                | (go_at_call 45; (with_reducible refine (C24.out _ S23.out).mono ?_); rintro e wz ⟨p, rfl, hX, hb⟩; have HXZ := Lib.hid hX; have HSZ := Lib.hid (S23.out.call hb); have HOZ := Lib.hid (O23.out.then hb HBW.out); have HLZ := Lib.hid O23.out.1.size; clear hX hb))
              go_ret3
              exact ⟨_, _, by rw [HP.out]; rfl, by rw [HP.out]; exact fun h => absurd h five_ne, by rw [HP.out]; exact .inr (.inr ⟨five_ne, Int.natCast_nonneg _, HXZ.out.mono HLZ.out⟩), by rw [HP.out]; exact HSZ.out, HOZ.out⟩
            · have C23 : Hid (∀ w0, ScanAt b s ((dgK s (yrE s k + 1) 2 : Nat) : Int) w0 → Calls Tryz.prog 42 #[.pointer (some ⟨b, 0, none⟩), .int .u8 45] w0 fun e w' => e = .returned (.bool true) ∧ ScanAt b s ((dgK s (yrE s k + 1) 2 + 1 : Nat) : Int) w' ∧ Only b w0 w') := Lib.hid fun w0 h => by
                  have q := cis_any b s (dgK s (yrE s k + 1) 2) 45 w0 h hs
                  rw [h23, isK_yes h23] at q
                  exact q
              have F23 := Lib.hid h23; clear h23
              go_wp2_with (first
                | (go_at_call 42; (with_reducible refine (C23.out _ S21.out).mono ?_); rintro e w23 ⟨rfl, hS, hO⟩; have S23 := Lib.hid hS; have O23 := Lib.hid (O21.out.trans hO); clear hS hO))
              rcases bool_or (dgB s (dgK s (yrE s k + 1) 2 + 1) 2) with h25 | h25
              · have C25 : Hid (∀ w0, ScanAt b s ((dgK s (yrE s k + 1) 2 + 1 : Nat) : Int) w0 → Calls Tryz.prog 78 #[.pointer (some ⟨b, 0, none⟩), .int .i64 2] w0 fun e w' => e = .returned (.tuple #[.int .i64 ((dgN s (dgK s (yrE s k + 1) 2 + 1) 2 : Nat) : Int), .bool false]) ∧ ScanAt b s ((dgK s (dgK s (yrE s k + 1) 2 + 1) 2 : Nat) : Int) w' ∧ Only b w0 w') := Lib.hid fun w0 h => by
                    have q := digits_any b s (dgK s (yrE s k + 1) 2 + 1) 2 2 rfl w0 h (isB_lt F23.out) hs (by omega)
                    rw [h25] at q
                    exact q
                have hx25 := dgN_lt s (dgK s (yrE s k + 1) 2 + 1) 2
                have F25 := Lib.hid h25; clear h25
                have C26 : Hid (∀ w0, ScanAt b s ((dgK s (dgK s (yrE s k + 1) 2 + 1) 2 : Nat) : Int) w0 → Calls Tryz.prog 45 #[.pointer (some ⟨b, 0, none⟩)] w0 fun e w' => ∃ p : Nat, e = .returned (.iface 105 (.pointer (some ⟨p, 0, none⟩))) ∧ AtBox w0.heap.size 5 ((dgK s (dgK s (yrE s k + 1) 2 + 1) 2 : Nat) : Int) (.iface 105 (.pointer (some ⟨p, 0, none⟩))) w' ∧ Below w0.heap.size w0 w') := Lib.hid fun w0 h => bad_any b s (dgK s (dgK s (yrE s k + 1) 2 + 1) 2) w0 h
                have HP : Hid (dayP s k = ⟨0, true, 5, ((dgK s (dgK s (yrE s k + 1) 2 + 1) 2 : Nat) : Int), dgK s (dgK s (yrE s k + 1) 2 + 1) 2⟩) := Lib.hid (by simp [dayP, dayA, mdP, badD, hY, F2.out, isK_yes F2.out, F17.out, g18, F21.out, F23.out, F25.out])
                go_wp2_with (first
                  | (go_at_call 78; (with_reducible refine (C25.out _ S23.out).mono ?_); rintro e w25 ⟨rfl, hS, hO⟩; have S25 := Lib.hid hS; have O25 := Lib.hid (O23.out.trans hO); clear hS hO)
                  | (go_at_call 45; (with_reducible refine (C26.out _ S25.out).mono ?_); rintro e wz ⟨p, rfl, hX, hb⟩; have HXZ := Lib.hid hX; have HSZ := Lib.hid (S25.out.call hb); have HOZ := Lib.hid (O25.out.then hb HBW.out); have HLZ := Lib.hid O25.out.1.size; clear hX hb))
                go_ret3
                exact ⟨_, _, by rw [HP.out]; rfl, by rw [HP.out]; exact fun h => absurd h five_ne, by rw [HP.out]; exact .inr (.inr ⟨five_ne, Int.natCast_nonneg _, HXZ.out.mono HLZ.out⟩), by rw [HP.out]; exact HSZ.out, HOZ.out⟩
              · have C25 : Hid (∀ w0, ScanAt b s ((dgK s (yrE s k + 1) 2 + 1 : Nat) : Int) w0 → Calls Tryz.prog 78 #[.pointer (some ⟨b, 0, none⟩), .int .i64 2] w0 fun e w' => e = .returned (.tuple #[.int .i64 ((dgN s (dgK s (yrE s k + 1) 2 + 1) 2 : Nat) : Int), .bool true]) ∧ ScanAt b s ((dgK s (dgK s (yrE s k + 1) 2 + 1) 2 : Nat) : Int) w' ∧ Only b w0 w') := Lib.hid fun w0 h => by
                    have q := digits_any b s (dgK s (yrE s k + 1) 2 + 1) 2 2 rfl w0 h (isB_lt F23.out) hs (by omega)
                    rw [h25] at q
                    exact q
                have hx25 := dgN_lt s (dgK s (yrE s k + 1) 2 + 1) 2
                have F25 := Lib.hid h25; clear h25
                have C27 : Hid (∀ w0, Only b w w0 → Calls Tryz.prog 82 #[.agg #[.int .i64 1, .int .i64 (yrY s k), .int .i64 ((dgN s (yrE s k + 1) 2 : Nat) : Int), .int .i64 ((dgN s (dgK s (yrE s k + 1) 2 + 1) 2 : Nat) : Int)]] w0 fun e w' => e = .returned (.tuple #[.int .i64 (dayR 1 (yrY s k) ((dgN s (yrE s k + 1) 2 : Nat) : Int) ((dgN s (dgK s (yrE s k + 1) 2 + 1) 2 : Nat) : Int)), errV (dayE 1 (yrY s k) ((dgN s (yrE s k + 1) 2 : Nat) : Int) ((dgN s (dgK s (yrE s k + 1) 2 + 1) 2 : Nat) : Int))]) ∧ Below w0.heap.size w0 w') := Lib.hid fun w0 h => day_all 1 _ _ _ w0 (HRM.out.only h HBR.out)
                have HP : Hid (dayP s k = ⟨dayR 1 (yrY s k) ((dgN s (yrE s k + 1) 2 : Nat) : Int) ((dgN s (dgK s (yrE s k + 1) 2 + 1) 2 : Nat) : Int), true, dayE 1 (yrY s k) ((dgN s (yrE s k + 1) 2 : Nat) : Int) ((dgN s (dgK s (yrE s k + 1) 2 + 1) 2 : Nat) : Int), -1, dgK s (dgK s (yrE s k + 1) 2 + 1) 2⟩) := Lib.hid (by simp [dayP, dayA, mdP, hY, F2.out, isK_yes F2.out, F17.out, g18, F21.out, F23.out, F25.out])
                go_wp2_with (first
                  | (go_at_call 78; (with_reducible refine (C25.out _ S23.out).mono ?_); rintro e w25 ⟨rfl, hS, hO⟩; have S25 := Lib.hid hS; have O25 := Lib.hid (O23.out.trans hO); clear hS hO)
                  | (go_at_call 82; (with_reducible refine (C27.out _ O25.out).mono ?_); rintro e w27 ⟨rfl, hb⟩; have S27 := Lib.hid (S25.out.call hb); have O27 := Lib.hid (O25.out.then hb HBW.out); clear hb))
                go_ret3
                exact ⟨_, _, by rw [HP.out]; rfl, by rw [HP.out]; exact fun _ => rfl, by rw [HP.out]; exact ErrIs.ofE, by rw [HP.out]; exact S27.out, O27.out⟩
      · have C17 : Hid (∀ w0, ScanAt b s ((yrE s k + 1 : Nat) : Int) w0 → Calls Tryz.prog 42 #[.pointer (some ⟨b, 0, none⟩), .int .u8 87] w0 fun e w' => e = .returned (.bool true) ∧ ScanAt b s ((yrE s k + 1 + 1 : Nat) : Int) w' ∧ Only b w0 w') := Lib.hid fun w0 h => by
            have q := cis_any b s (yrE s k + 1) 87 w0 h hs
            rw [h17, isK_yes h17] at q
            exact q
        have F17 := Lib.hid h17; clear h17
        go_wp2_with (first
          | (go_at_call 42; (with_reducible refine (C17.out _ S2.out).mono ?_); rintro e w17 ⟨rfl, hS, hO⟩; have S17 := Lib.hid hS; have O17 := Lib.hid (O2.out.trans hO); clear hS hO))
        rcases bool_or (dgB s (yrE s k + 1 + 1) 2) with h28 | h28
        · have C28 : Hid (∀ w0, ScanAt b s ((yrE s k + 1 + 1 : Nat) : Int) w0 → Calls Tryz.prog 78 #[.pointer (some ⟨b, 0, none⟩), .int .i64 2] w0 fun e w' => e = .returned (.tuple #[.int .i64 ((dgN s (yrE s k + 1 + 1) 2 : Nat) : Int), .bool false]) ∧ ScanAt b s ((dgK s (yrE s k + 1 + 1) 2 : Nat) : Int) w' ∧ Only b w0 w') := Lib.hid fun w0 h => by
              have q := digits_any b s (yrE s k + 1 + 1) 2 2 rfl w0 h (isB_lt F17.out) hs (by omega)
              rw [h28] at q
              exact q
          have hx28 := dgN_lt s (yrE s k + 1 + 1) 2
          have F28 := Lib.hid h28; clear h28
          have C29 : Hid (∀ w0, ScanAt b s ((dgK s (yrE s k + 1 + 1) 2 : Nat) : Int) w0 → Calls Tryz.prog 45 #[.pointer (some ⟨b, 0, none⟩)] w0 fun e w' => ∃ p : Nat, e = .returned (.iface 105 (.pointer (some ⟨p, 0, none⟩))) ∧ AtBox w0.heap.size 5 ((dgK s (yrE s k + 1 + 1) 2 : Nat) : Int) (.iface 105 (.pointer (some ⟨p, 0, none⟩))) w' ∧ Below w0.heap.size w0 w') := Lib.hid fun w0 h => bad_any b s (dgK s (yrE s k + 1 + 1) 2) w0 h
          have HP : Hid (dayP s k = ⟨0, true, 5, ((dgK s (yrE s k + 1 + 1) 2 : Nat) : Int), dgK s (yrE s k + 1 + 1) 2⟩) := Lib.hid (by simp [dayP, dayA, wkP, badD, hY, F2.out, isK_yes F2.out, F17.out, F28.out])
          go_wp2_with (first
            | (go_at_call 78; (with_reducible refine (C28.out _ S17.out).mono ?_); rintro e w28 ⟨rfl, hS, hO⟩; have S28 := Lib.hid hS; have O28 := Lib.hid (O17.out.trans hO); clear hS hO)
            | (go_at_call 45; (with_reducible refine (C29.out _ S28.out).mono ?_); rintro e wz ⟨p, rfl, hX, hb⟩; have HXZ := Lib.hid hX; have HSZ := Lib.hid (S28.out.call hb); have HOZ := Lib.hid (O28.out.then hb HBW.out); have HLZ := Lib.hid O28.out.1.size; clear hX hb))
          go_ret3
          exact ⟨_, _, by rw [HP.out]; rfl, by rw [HP.out]; exact fun h => absurd h five_ne, by rw [HP.out]; exact .inr (.inr ⟨five_ne, Int.natCast_nonneg _, HXZ.out.mono HLZ.out⟩), by rw [HP.out]; exact HSZ.out, HOZ.out⟩
        · have C28 : Hid (∀ w0, ScanAt b s ((yrE s k + 1 + 1 : Nat) : Int) w0 → Calls Tryz.prog 78 #[.pointer (some ⟨b, 0, none⟩), .int .i64 2] w0 fun e w' => e = .returned (.tuple #[.int .i64 ((dgN s (yrE s k + 1 + 1) 2 : Nat) : Int), .bool true]) ∧ ScanAt b s ((dgK s (yrE s k + 1 + 1) 2 : Nat) : Int) w' ∧ Only b w0 w') := Lib.hid fun w0 h => by
              have q := digits_any b s (yrE s k + 1 + 1) 2 2 rfl w0 h (isB_lt F17.out) hs (by omega)
              rw [h28] at q
              exact q
          have hx28 := dgN_lt s (yrE s k + 1 + 1) 2
          have F28 := Lib.hid h28; clear h28
          go_wp2_with (first
            | (go_at_call 78; (with_reducible refine (C28.out _ S17.out).mono ?_); rintro e w28 ⟨rfl, hS, hO⟩; have S28 := Lib.hid hS; have O28 := Lib.hid (O17.out.trans hO); clear hS hO))
          rcases bool_or (isB s (dgK s (yrE s k + 1 + 1) 2) 45) with h30 | h30
          · have C30 : Hid (∀ w0, ScanAt b s ((dgK s (yrE s k + 1 + 1) 2 : Nat) : Int) w0 → Calls Tryz.prog 42 #[.pointer (some ⟨b, 0, none⟩), .int .u8 45] w0 fun e w' => e = .returned (.bool false) ∧ ScanAt b s ((dgK s (yrE s k + 1 + 1) 2 : Nat) : Int) w' ∧ Only b w0 w') := Lib.hid fun w0 h => by
                have q := cis_any b s (dgK s (yrE s k + 1 + 1) 2) 45 w0 h hs
                rw [h30, isK_no h30] at q
                exact q
            have F30 := Lib.hid h30; clear h30
            have C31 : Hid (∀ w0, ScanAt b s ((dgK s (yrE s k + 1 + 1) 2 : Nat) : Int) w0 → Calls Tryz.prog 45 #[.pointer (some ⟨b, 0, none⟩)] w0 fun e w' => ∃ p : Nat, e = .returned (.iface 105 (.pointer (some ⟨p, 0, none⟩))) ∧ AtBox w0.heap.size 5 ((dgK s (yrE s k + 1 + 1) 2 : Nat) : Int) (.iface 105 (.pointer (some ⟨p, 0, none⟩))) w' ∧ Below w0.heap.size w0 w') := Lib.hid fun w0 h => bad_any b s (dgK s (yrE s k + 1 + 1) 2) w0 h
            have HP : Hid (dayP s k = ⟨0, true, 5, ((dgK s (yrE s k + 1 + 1) 2 : Nat) : Int), dgK s (yrE s k + 1 + 1) 2⟩) := Lib.hid (by simp [dayP, dayA, wkP, badD, hY, F2.out, isK_yes F2.out, F17.out, F28.out, F30.out])
            go_wp2_with (first
              | (go_at_call 42; (with_reducible refine (C30.out _ S28.out).mono ?_); rintro e w30 ⟨rfl, hS, hO⟩; have S30 := Lib.hid hS; have O30 := Lib.hid (O28.out.trans hO); clear hS hO)
              | (go_at_call 45; (with_reducible refine (C31.out _ S30.out).mono ?_); rintro e wz ⟨p, rfl, hX, hb⟩; have HXZ := Lib.hid hX; have HSZ := Lib.hid (S30.out.call hb); have HOZ := Lib.hid (O30.out.then hb HBW.out); have HLZ := Lib.hid O30.out.1.size; clear hX hb))
            go_ret3
            exact ⟨_, _, by rw [HP.out]; rfl, by rw [HP.out]; exact fun h => absurd h five_ne, by rw [HP.out]; exact .inr (.inr ⟨five_ne, Int.natCast_nonneg _, HXZ.out.mono HLZ.out⟩), by rw [HP.out]; exact HSZ.out, HOZ.out⟩
          · have C30 : Hid (∀ w0, ScanAt b s ((dgK s (yrE s k + 1 + 1) 2 : Nat) : Int) w0 → Calls Tryz.prog 42 #[.pointer (some ⟨b, 0, none⟩), .int .u8 45] w0 fun e w' => e = .returned (.bool true) ∧ ScanAt b s ((dgK s (yrE s k + 1 + 1) 2 + 1 : Nat) : Int) w' ∧ Only b w0 w') := Lib.hid fun w0 h => by
                have q := cis_any b s (dgK s (yrE s k + 1 + 1) 2) 45 w0 h hs
                rw [h30, isK_yes h30] at q
                exact q
            have F30 := Lib.hid h30; clear h30
            go_wp2_with (first
              | (go_at_call 42; (with_reducible refine (C30.out _ S28.out).mono ?_); rintro e w30 ⟨rfl, hS, hO⟩; have S30 := Lib.hid hS; have O30 := Lib.hid (O28.out.trans hO); clear hS hO))
            rcases bool_or (dgB s (dgK s (yrE s k + 1 + 1) 2 + 1) 1) with h32 | h32
            · have C32 : Hid (∀ w0, ScanAt b s ((dgK s (yrE s k + 1 + 1) 2 + 1 : Nat) : Int) w0 → Calls Tryz.prog 78 #[.pointer (some ⟨b, 0, none⟩), .int .i64 1] w0 fun e w' => e = .returned (.tuple #[.int .i64 ((dgN s (dgK s (yrE s k + 1 + 1) 2 + 1) 1 : Nat) : Int), .bool false]) ∧ ScanAt b s ((dgK s (dgK s (yrE s k + 1 + 1) 2 + 1) 1 : Nat) : Int) w' ∧ Only b w0 w') := Lib.hid fun w0 h => by
                  have q := digits_any b s (dgK s (yrE s k + 1 + 1) 2 + 1) 1 1 rfl w0 h (isB_lt F30.out) hs (by omega)
                  rw [h32] at q
                  exact q
              have hx32 := dgN_lt s (dgK s (yrE s k + 1 + 1) 2 + 1) 1
              have F32 := Lib.hid h32; clear h32
              have C33 : Hid (∀ w0, ScanAt b s ((dgK s (dgK s (yrE s k + 1 + 1) 2 + 1) 1 : Nat) : Int) w0 → Calls Tryz.prog 45 #[.pointer (some ⟨b, 0, none⟩)] w0 fun e w' => ∃ p : Nat, e = .returned (.iface 105 (.pointer (some ⟨p, 0, none⟩))) ∧ AtBox w0.heap.size 5 ((dgK s (dgK s (yrE s k + 1 + 1) 2 + 1) 1 : Nat) : Int) (.iface 105 (.pointer (some ⟨p, 0, none⟩))) w' ∧ Below w0.heap.size w0 w') := Lib.hid fun w0 h => bad_any b s (dgK s (dgK s (yrE s k + 1 + 1) 2 + 1) 1) w0 h
              have HP : Hid (dayP s k = ⟨0, true, 5, ((dgK s (dgK s (yrE s k + 1 + 1) 2 + 1) 1 : Nat) : Int), dgK s (dgK s (yrE s k + 1 + 1) 2 + 1) 1⟩) := Lib.hid (by simp [dayP, dayA, wkP, badD, hY, F2.out, isK_yes F2.out, F17.out, F28.out, F30.out, F32.out])
              go_wp2_with (first
                | (go_at_call 78; (with_reducible refine (C32.out _ S30.out).mono ?_); rintro e w32 ⟨rfl, hS, hO⟩; have S32 := Lib.hid hS; have O32 := Lib.hid (O30.out.trans hO); clear hS hO)
                | (go_at_call 45; (with_reducible refine (C33.out _ S32.out).mono ?_); rintro e wz ⟨p, rfl, hX, hb⟩; have HXZ := Lib.hid hX; have HSZ := Lib.hid (S32.out.call hb); have HOZ := Lib.hid (O32.out.then hb HBW.out); have HLZ := Lib.hid O32.out.1.size; clear hX hb))
              go_ret3
              exact ⟨_, _, by rw [HP.out]; rfl, by rw [HP.out]; exact fun h => absurd h five_ne, by rw [HP.out]; exact .inr (.inr ⟨five_ne, Int.natCast_nonneg _, HXZ.out.mono HLZ.out⟩), by rw [HP.out]; exact HSZ.out, HOZ.out⟩
            · have C32 : Hid (∀ w0, ScanAt b s ((dgK s (yrE s k + 1 + 1) 2 + 1 : Nat) : Int) w0 → Calls Tryz.prog 78 #[.pointer (some ⟨b, 0, none⟩), .int .i64 1] w0 fun e w' => e = .returned (.tuple #[.int .i64 ((dgN s (dgK s (yrE s k + 1 + 1) 2 + 1) 1 : Nat) : Int), .bool true]) ∧ ScanAt b s ((dgK s (dgK s (yrE s k + 1 + 1) 2 + 1) 1 : Nat) : Int) w' ∧ Only b w0 w') := Lib.hid fun w0 h => by
                  have q := digits_any b s (dgK s (yrE s k + 1 + 1) 2 + 1) 1 1 rfl w0 h (isB_lt F30.out) hs (by omega)
                  rw [h32] at q
                  exact q
              have hx32 := dgN_lt s (dgK s (yrE s k + 1 + 1) 2 + 1) 1
              have F32 := Lib.hid h32; clear h32
              have C34 : Hid (∀ w0, Calls Tryz.prog 79 #[.int .i64 (yrY s k), .int .i64 ((dgN s (yrE s k + 1 + 1) 2 : Nat) : Int), .int .i64 ((dgN s (dgK s (yrE s k + 1 + 1) 2 + 1) 1 : Nat) : Int)] w0 fun e w' => e = .returned (.tuple #[.int .i64 (owR (yrY s k) ((dgN s (yrE s k + 1 + 1) 2 : Nat) : Int) ((dgN s (dgK s (yrE s k + 1 + 1) 2 + 1) 1 : Nat) : Int)), errV (owE (yrY s k) ((dgN s (yrE s k + 1 + 1) 2 : Nat) : Int) ((dgN s (dgK s (yrE s k + 1 + 1) 2 + 1) 1 : Nat) : Int))]) ∧ w0 = w') := Lib.hid fun w0 => (ofWeek_all _ _ _ w0).mono fun e w' ⟨r, x, h1, h2, h3⟩ => by obtain ⟨rfl, rfl⟩ := h2.is; exact ⟨h1, h3⟩
              have HP : Hid (dayP s k = ⟨owR (yrY s k) ((dgN s (yrE s k + 1 + 1) 2 : Nat) : Int) ((dgN s (dgK s (yrE s k + 1 + 1) 2 + 1) 1 : Nat) : Int), true, owE (yrY s k) ((dgN s (yrE s k + 1 + 1) 2 : Nat) : Int) ((dgN s (dgK s (yrE s k + 1 + 1) 2 + 1) 1 : Nat) : Int), -1, dgK s (dgK s (yrE s k + 1 + 1) 2 + 1) 1⟩) := Lib.hid (by simp [dayP, dayA, wkP, hY, F2.out, isK_yes F2.out, F17.out, F28.out, F30.out, F32.out])
              go_wp2_with (first
                | (go_at_call 78; (with_reducible refine (C32.out _ S30.out).mono ?_); rintro e w32 ⟨rfl, hS, hO⟩; have S32 := Lib.hid hS; have O32 := Lib.hid (O30.out.trans hO); clear hS hO)
                | (go_at_call 79; (with_reducible refine (C34.out _).mono ?_); rintro e wq ⟨rfl, rfl⟩))
              go_ret3
              exact ⟨_, _, by rw [HP.out]; rfl, by rw [HP.out]; exact fun _ => rfl, by rw [HP.out]; exact ErrIs.ofE, by rw [HP.out]; exact S32.out, O32.out⟩
end Go.Proofs.YtkfpnlenmdlmjaaGreatDoor
