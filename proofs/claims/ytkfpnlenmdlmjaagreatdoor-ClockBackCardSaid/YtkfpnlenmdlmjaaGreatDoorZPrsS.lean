/- The day of a stamp's text, as the document reads it. Printed by a program of mine. -/
import Derived.Test.YtkfpnlenmdlmjaaGreatDoorZPrsR
import Derived.Test.YtkfpnlenmdlmjaaGreatDoorZG8
import Derived.Deep.CutRange
namespace Go.Proofs.YtkfpnlenmdlmjaaGreatDoor
open Go.RowKit Scm
/-- How far the reading has come, the result's cell laid. -/
def PreS (b : Nat) (s : ByteArray) (k : Nat) (w wx : World) : Prop := ScanAt b s (k : Int) wx ∧ Only b w wx ∧ L2 w.heap.size (.int .i64 0) (.int .i64 0) wx
theorem ord_bad1 {y n : Int} (h : dayE 1 y 1 1 ≠ 0) : ordE y n = dayE 1 y 1 1 ∧ ordR y n = 0 ∧ dayR 1 y 1 1 = 0 := by
  have e : ordE y n = dayE 1 y 1 1 := if_pos h
  exact ⟨e, if_neg (by rw [e]; exact h), if_neg h⟩
theorem ord_year {y : Int} (h : dayE 1 y 1 1 = 0) : -20000 ≤ y ∧ y ≤ 20000 ∧ Dm.yearDays 1 y = 365 + (if leapR 1 y = true then 1 else 0) := by
  have hy := dayE_year h
  have e : leapR 1 y = Dm.leap 1 y := if_pos hy
  have hr : -20000 ≤ y ∧ y ≤ 20000 := by
    unfold yearE at hy
    split at hy
    · exact absurd hy (by decide)
    · split at hy
      · exact absurd hy (by decide)
      · omega
  exact ⟨hr.1, hr.2, by rw [e]; exact Dm.days_plain 1 y (by decide) (by decide) (by decide)⟩
theorem ord_bad2 {y n : Int} (h : dayE 1 y 1 1 = 0) (hn : n < 1 ∨ Dm.yearDays 1 y < n) : ordE y n = 3 ∧ ordR y n = 0 := by
  have q := (ord_year h).2.2
  have e : ordE y n = 3 := by
    unfold ordE
    rw [if_neg (fun g => g h), if_pos]
    cases hl : leapR 1 y <;> rw [hl] at q <;> simp at q <;> simp <;> omega
  exact ⟨e, if_neg (by rw [e]; decide)⟩
theorem ord_good {y n : Int} (h : dayE 1 y 1 1 = 0) (h1 : ¬ n < 1) (h2 : ¬ Dm.yearDays 1 y < n) : ordE y n = 0 ∧ ordR y n = dayR 1 y 1 1 + n - 1 := by
  have q := (ord_year h).2.2
  have e : ordE y n = 0 := by
    unfold ordE
    rw [if_neg (fun g => g h), if_neg]
    cases hl : leapR 1 y <;> rw [hl] at q <;> simp at q <;> simp <;> omega
  exact ⟨e, if_pos e⟩
set_option maxRecDepth 100000 in
set_option maxHeartbeats 32000000 in
theorem rday_any (b : Nat) (s : ByteArray) (k : Nat) (w : World) (h : ScanAt b s k w) (hk : k ≤ s.size) (hs : s.size ≤ 9223372036854775807) :
    Calls Tryz.prog 22 #[.pointer (some ⟨b, 0, none⟩)] w (RdPost b s (dayP s k) w) := by
  have HBL : Hid (b < w.heap.size) := Lib.hid h.1
  have HBW : Hid (b ≤ w.heap.size) := Lib.hid (Nat.le_of_lt h.1)
  have S0 : Hid (ScanAt b s (k : Int) (w.alloc (.cells #[.int .i64 0, .int .i64 0] 29))) := Lib.hid (h.alloc _)
  have O0 : Hid (Only b w (w.alloc (.cells #[.int .i64 0, .int .i64 0] 29))) := Lib.hid ((Only.refl b w).alloc (Nat.le_of_lt h.1) _)
  have L0 : Hid (L2 w.heap.size (.int .i64 0) (.int .i64 0) (w.alloc (.cells #[.int .i64 0, .int .i64 0] 29))) := Lib.hid (L2.new w _)
  clear h
  have hye := yrE_le hk
  go_enter Tryz.func22, Tryz.ntmps22
  go_upto_region 2 with fail
  go_cut [27] from 20 (fun s27 wx => (∃ T : Bool, s27 = .bool T ∧ Hid (T = (isB s k 45 || isB s k 43))) ∧ Hid (PreS b s k w wx))
  case first =>
    obtain ⟨-, -, k1, kf⟩ := S0.out
    rcases bool_or (isB s k 45) with hM | hM
    · rcases bool_or (isB s k 43) with hP | hP
      · obtain ⟨X, hX⟩ : ∃ X, (nxt s k).toNat = X := ⟨_, rfl⟩
        have x45 : (X == 45) = false := by rw [← hX]; simpa using nxt_ne (n := 45) hM (by decide) rfl
        have x43 : (X == 43) = false := by rw [← hX]; simpa using nxt_ne (n := 43) hP (by decide) rfl
        have x45i : ((X : Int) == 45) = false := by simp at x45; simp; omega
        have x43i : ((X : Int) == 43) = false := by simp at x43; simp; omega
        have C1 : Hid (∀ w0, ScanAt b s ((k : Nat) : Int) w0 → Calls Tryz.prog 48 #[.pointer (some ⟨b, 0, none⟩)] w0 fun e w' => e = .returned (.int .u8 (X : Int)) ∧ ∃ q, w' = w0.drewN q) := Lib.hid fun w0 h => (next_any b s (k) w0 h).mono fun e w' ⟨h1, h2⟩ => ⟨by rw [h1, hX], h2⟩
        have C2 : Hid (∀ w0, ScanAt b s ((k : Nat) : Int) w0 → Calls Tryz.prog 48 #[.pointer (some ⟨b, 0, none⟩)] w0 fun e w' => e = .returned (.int .u8 (X : Int)) ∧ ∃ q, w' = w0.drewN q) := Lib.hid fun w0 h => (next_any b s (k) w0 h).mono fun e w' ⟨h1, h2⟩ => ⟨by rw [h1, hX], h2⟩
        go_wp2_with (first
          | (go_at_call 48; (with_reducible refine (C1.out _ S0.out).mono ?_); rintro e w1 ⟨rfl, q, rfl⟩; have hsa := S0.out.drewN q; have hoa := O0.out.drewN q; have hla := L0.out.drewN q; (try simp only [World.drewN_drewN] at hsa hoa hla); have S1 := Lib.hid hsa; have O1 := Lib.hid hoa; have L1 := Lib.hid hla; clear hsa hoa hla)
          | (go_at_call 48; (with_reducible refine (C2.out _ S1.out).mono ?_); rintro e w2 ⟨rfl, q, rfl⟩; have hsa := S1.out.drewN q; have hoa := O1.out.drewN q; have hla := L1.out.drewN q; (try simp only [World.drewN_drewN] at hsa hoa hla); have S2 := Lib.hid hsa; have O2 := Lib.hid hoa; have L2 := Lib.hid hla; clear hsa hoa hla))
        go_meet
        exact ⟨⟨_, rfl, Lib.hid (by simp [hM, hP])⟩, Lib.hid ⟨S2.out, O2.out, L2.out⟩⟩
      · have hv := nxt_yes hP
        have hkl := isB_lt hP
        have C3 : Hid (∀ w0, ScanAt b s ((k : Nat) : Int) w0 → Calls Tryz.prog 48 #[.pointer (some ⟨b, 0, none⟩)] w0 fun e w' => e = .returned (.int .u8 43) ∧ ∃ q, w' = w0.drewN q) := Lib.hid fun w0 h => (next_any b s (k) w0 h).mono fun e w' ⟨h1, h2⟩ => ⟨by rw [h1, hv]; rfl, h2⟩
        have C4 : Hid (∀ w0, ScanAt b s ((k : Nat) : Int) w0 → Calls Tryz.prog 48 #[.pointer (some ⟨b, 0, none⟩)] w0 fun e w' => e = .returned (.int .u8 43) ∧ ∃ q, w' = w0.drewN q) := Lib.hid fun w0 h => (next_any b s (k) w0 h).mono fun e w' ⟨h1, h2⟩ => ⟨by rw [h1, hv]; rfl, h2⟩
        go_wp2_with (first
          | (go_at_call 48; (with_reducible refine (C3.out _ S0.out).mono ?_); rintro e w3 ⟨rfl, q, rfl⟩; have hsa := S0.out.drewN q; have hoa := O0.out.drewN q; have hla := L0.out.drewN q; (try simp only [World.drewN_drewN] at hsa hoa hla); have S3 := Lib.hid hsa; have O3 := Lib.hid hoa; have L3 := Lib.hid hla; clear hsa hoa hla)
          | (go_at_call 48; (with_reducible refine (C4.out _ S3.out).mono ?_); rintro e w4 ⟨rfl, q, rfl⟩; have hsa := S3.out.drewN q; have hoa := O3.out.drewN q; have hla := L3.out.drewN q; (try simp only [World.drewN_drewN] at hsa hoa hla); have S4 := Lib.hid hsa; have O4 := Lib.hid hoa; have L4 := Lib.hid hla; clear hsa hoa hla))
        go_meet
        exact ⟨⟨_, rfl, Lib.hid (by simp [hM, hP])⟩, Lib.hid ⟨S4.out, O4.out, L4.out⟩⟩
    · have hv := nxt_yes hM
      have hkl := isB_lt hM
      have C5 : Hid (∀ w0, ScanAt b s ((k : Nat) : Int) w0 → Calls Tryz.prog 48 #[.pointer (some ⟨b, 0, none⟩)] w0 fun e w' => e = .returned (.int .u8 45) ∧ ∃ q, w' = w0.drewN q) := Lib.hid fun w0 h => (next_any b s (k) w0 h).mono fun e w' ⟨h1, h2⟩ => ⟨by rw [h1, hv]; rfl, h2⟩
      go_wp2_with (first
        | (go_at_call 48; (with_reducible refine (C5.out _ S0.out).mono ?_); rintro e w5 ⟨rfl, q, rfl⟩; have hsa := S0.out.drewN q; have hoa := O0.out.drewN q; have hla := L0.out.drewN q; (try simp only [World.drewN_drewN] at hsa hoa hla); have S5 := Lib.hid hsa; have O5 := Lib.hid hoa; have L5 := Lib.hid hla; clear hsa hoa hla))
      go_meet
      exact ⟨⟨_, rfl, Lib.hid (by simp [hM])⟩, Lib.hid ⟨S5.out, O5.out, L5.out⟩⟩
  case rest =>
    obtain ⟨⟨T, rfl, HT⟩, HP0⟩ := hcut
    have S0 := Lib.hid HP0.out.1; have O0 := Lib.hid HP0.out.2.1; have L0 := Lib.hid HP0.out.2.2; clear HP0
    go_upto_if 27 with fail
    go_cut [5, 6] from 20 (fun s5 s6 wx => (∃ SG : Int, s5 = .int .i64 SG ∧ Hid (yrS s k = SG)) ∧ (∃ NN : Nat, s6 = .int .i64 (NN : Int) ∧ Hid (yrN s k = NN)) ∧ Hid (PreS b s (yrK s k) w wx))
    case first =>
      obtain ⟨-, -, k1, kf⟩ := S0.out
      rcases bool_or (isB s k 45) with hM | hM
      · rcases bool_or (isB s k 43) with hP | hP
        · obtain ⟨X, hX⟩ : ∃ X, (nxt s k).toNat = X := ⟨_, rfl⟩
          have x45 : (X == 45) = false := by rw [← hX]; simpa using nxt_ne (n := 45) hM (by decide) rfl
          have x43 : (X == 43) = false := by rw [← hX]; simpa using nxt_ne (n := 43) hP (by decide) rfl
          have x45i : ((X : Int) == 45) = false := by simp at x45; simp; omega
          have x43i : ((X : Int) == 43) = false := by simp at x43; simp; omega
          have HY := Lib.hid (yr_none hM hP)
          obtain rfl : T = false := by rw [HT.out]; simp [hM, hP]
          go_wp2_with fail
          go_meet
          exact ⟨⟨_, rfl, Lib.hid HY.out.2.2⟩, ⟨4, rfl, Lib.hid HY.out.1⟩, Lib.hid (by rw [HY.out.2.1]; exact ⟨S0.out, O0.out, L0.out⟩)⟩
        · have hv := nxt_yes hP
          have hkl := isB_lt hP
          have C6 : Hid (∀ w0, ScanAt b s ((k : Nat) : Int) w0 → Calls Tryz.prog 48 #[.pointer (some ⟨b, 0, none⟩)] w0 fun e w' => e = .returned (.int .u8 43) ∧ ∃ q, w' = w0.drewN q) := Lib.hid fun w0 h => (next_any b s (k) w0 h).mono fun e w' ⟨h1, h2⟩ => ⟨by rw [h1, hv]; rfl, h2⟩
          have HY := Lib.hid (yr_plus hM hP)
          obtain rfl : T = true := by rw [HT.out]; simp [hP]
          go_wp2_with (first
            | (go_at_call 48; (with_reducible refine (C6.out _ S0.out).mono ?_); rintro e w6 ⟨rfl, q, rfl⟩; have hsa := S0.out.drewN q; have hoa := O0.out.drewN q; have hla := L0.out.drewN q; (try simp only [World.drewN_drewN] at hsa hoa hla); have S6 := Lib.hid hsa; have O6 := Lib.hid hoa; have L6 := Lib.hid hla; clear hsa hoa hla; have hsa := ScanAt.set1 S6.out; have hoa := Only.set1 (k := k) O6.out; have hla := L2.set1 (b := b) (k := k) L6.out (by have := HBL.out; omega); (try simp only [World.drewN_drewN] at hsa hoa hla); have SA7 := Lib.hid hsa; have OA7 := Lib.hid hoa; have LA7 := Lib.hid hla; clear hsa hoa hla))
          go_meet
          exact ⟨⟨_, rfl, Lib.hid HY.out.2.2⟩, ⟨5, rfl, Lib.hid HY.out.1⟩, Lib.hid (by rw [HY.out.2.1]; exact ⟨SA7.out, OA7.out, LA7.out⟩)⟩
      · have hv := nxt_yes hM
        have hkl := isB_lt hM
        have C8 : Hid (∀ w0, ScanAt b s ((k : Nat) : Int) w0 → Calls Tryz.prog 48 #[.pointer (some ⟨b, 0, none⟩)] w0 fun e w' => e = .returned (.int .u8 45) ∧ ∃ q, w' = w0.drewN q) := Lib.hid fun w0 h => (next_any b s (k) w0 h).mono fun e w' ⟨h1, h2⟩ => ⟨by rw [h1, hv]; rfl, h2⟩
        have HY := Lib.hid (yr_minus hM)
        obtain rfl : T = true := by rw [HT.out]; simp [hM]
        go_wp2_with (first
          | (go_at_call 48; (with_reducible refine (C8.out _ S0.out).mono ?_); rintro e w8 ⟨rfl, q, rfl⟩; have hsa := S0.out.drewN q; have hoa := O0.out.drewN q; have hla := L0.out.drewN q; (try simp only [World.drewN_drewN] at hsa hoa hla); have S8 := Lib.hid hsa; have O8 := Lib.hid hoa; have L8 := Lib.hid hla; clear hsa hoa hla; have hsa := ScanAt.set1 S8.out; have hoa := Only.set1 (k := k) O8.out; have hla := L2.set1 (b := b) (k := k) L8.out (by have := HBL.out; omega); (try simp only [World.drewN_drewN] at hsa hoa hla); have SA9 := Lib.hid hsa; have OA9 := Lib.hid hoa; have LA9 := Lib.hid hla; clear hsa hoa hla))
        go_meet
        exact ⟨⟨_, rfl, Lib.hid HY.out.2.2⟩, ⟨5, rfl, Lib.hid HY.out.1⟩, Lib.hid (by rw [HY.out.2.1]; exact ⟨SA9.out, OA9.out, LA9.out⟩)⟩
    case rest =>
      obtain ⟨⟨SG, rfl, HSG⟩, ⟨NN, rfl, HNN⟩, HP1⟩ := hcut
      have S1 := Lib.hid HP1.out.1; have O1 := Lib.hid HP1.out.2.1; have L1 := Lib.hid HP1.out.2.2; clear HP1 S0 O0 L0
      obtain ⟨-, ⟨c0, f0⟩, ⟨c1, f1⟩⟩ := L1.out
      obtain ⟨X, hX⟩ : ∃ X, dgN s (yrK s k) NN = X := ⟨_, rfl⟩
      have hx : X < 100000 := by have q := dgN_lt s (yrK s k) NN; have q2 := yrN_le s k; rw [HNN.out] at q2; have q3 : 10 ^ NN ≤ 10 ^ 5 := Nat.pow_le_pow_right (by omega) q2; simp at q3; omega
      obtain ⟨Y, hYv⟩ : ∃ Y, SG * (X : Int) = Y := ⟨_, rfl⟩
      have HYY : Hid (yrY s k = Y) := Lib.hid (by unfold yrY; rw [HSG.out, HNN.out, hX]; exact hYv)
      have hYb := yrY_bd s k; rw [HYY.out] at hYb; obtain ⟨yb1, yb2⟩ := hYb
      have hw : IntKind.i64.wrap (SG * (X : Int)) = Y := by rw [hYv]; exact IntWalk.i64_in _ (by omega)
      clear hYv
      rcases bool_or (yrB s k) with hY | hY
      · have C101 : Hid (∀ w0, ScanAt b s ((yrK s k : Nat) : Int) w0 → Calls Tryz.prog 49 #[.pointer (some ⟨b, 0, none⟩), .int .i64 (NN : Int)] w0 fun e w' => e = .returned (.tuple #[.int .i64 (X : Int), .bool false]) ∧ ScanAt b s ((yrE s k : Nat) : Int) w' ∧ Only b w0 w') := Lib.hid fun w0 h => by
            have q := take_any b s (yrK s k) NN _ rfl w0 h (yrK_le hk) hs (by have := yrN_le s k; rw [HNN.out] at this; omega)
            rw [hX, show dgB s (yrK s k) NN = false from (by rw [← HNN.out]; exact hY), show dgK s (yrK s k) NN = yrE s k from (by rw [← HNN.out]; rfl)] at q
            exact q
        have HP : Hid (dayP s k = ⟨0, false, 5, ((yrE s k : Nat) : Int), yrE s k⟩) := Lib.hid (by simp [dayP, badD, hY])
        have CFO : Hid (∀ w0, ScanAt b s ((yrE s k : Nat) : Int) w0 → Calls Tryz.prog 26 #[.pointer (some ⟨b, 0, none⟩)] w0 fun e w' => e = .returned (.agg #[.int .i64 5, .int .i64 ((yrE s k : Nat) : Int)]) ∧ Below w0.heap.size w0 w') := Lib.hid fun w0 h => form_any b s (yrE s k) w0 h
        go_wp2_with (first
          | (go_at_call 49; (with_reducible refine (C101.out _ S1.out).mono ?_); rintro e w101 ⟨rfl, hS, hO⟩; have S101 := Lib.hid hS; have O101 := Lib.hid (O1.out.trans hO); have L101 := Lib.hid (L1.out.only hO (by have := HBL.out; omega)); obtain ⟨-, ⟨c0, f0⟩, ⟨c1, f1⟩⟩ := L101.out; clear hS hO)
          | (go_at_call 26; (with_reducible refine (CFO.out _ S101.out).mono ?_); rintro e wz ⟨rfl, hb⟩; have HSZ := Lib.hid (S101.out.call hb); have HOZ := Lib.hid (O101.out.then hb HBW.out); have HLZ := Lib.hid (L101.out.call hb); obtain ⟨-, ⟨c0, f0⟩, ⟨c1, f1⟩⟩ := HLZ.out; clear hb))
        have hq := HLZ.out.put (.int .i64 5) (.int .i64 (((yrE s k : Nat) : Int)))
        exact bodyPost_ret (v := .tuple #[.int .i64 (0), .bool false, .agg #[.int .i64 5, .int .i64 (((yrE s k : Nat) : Int))]]) (by simp [results, Tryz.results22, go_sem, hq.2.1.1, hq.2.2.1]) rfl ⟨0, by rw [HP.out], by rw [HP.out]; exact fun h => absurd h five_ne, by rw [HP.out]; exact ScanAt.res HSZ.out HBL.out _ _, HOZ.out.res HBL.out _ _⟩
      · have C102 : Hid (∀ w0, ScanAt b s ((yrK s k : Nat) : Int) w0 → Calls Tryz.prog 49 #[.pointer (some ⟨b, 0, none⟩), .int .i64 (NN : Int)] w0 fun e w' => e = .returned (.tuple #[.int .i64 (X : Int), .bool true]) ∧ ScanAt b s ((yrE s k : Nat) : Int) w' ∧ Only b w0 w') := Lib.hid fun w0 h => by
            have q := take_any b s (yrK s k) NN _ rfl w0 h (yrK_le hk) hs (by have := yrN_le s k; rw [HNN.out] at this; omega)
            rw [hX, show dgB s (yrK s k) NN = true from (by rw [← HNN.out]; exact hY), show dgK s (yrK s k) NN = yrE s k from (by rw [← HNN.out]; rfl)] at q
            exact q
        go_wp2_with (first
          | (go_at_call 49; (with_reducible refine (C102.out _ S1.out).mono ?_); rintro e w102 ⟨rfl, hS, hO⟩; have S102 := Lib.hid hS; have O102 := Lib.hid (O1.out.trans hO); have L102 := Lib.hid (L1.out.only hO (by have := HBL.out; omega)); obtain ⟨-, ⟨c0, f0⟩, ⟨c1, f1⟩⟩ := L102.out; clear hS hO))
        rcases bool_or (isB s (yrE s k) 45) with h103 | h103
        · have C103 : Hid (∀ w0, ScanAt b s ((yrE s k : Nat) : Int) w0 → Calls Tryz.prog 23 #[.pointer (some ⟨b, 0, none⟩), .int .u8 45] w0 fun e w' => e = .returned (.bool false) ∧ ScanAt b s ((yrE s k : Nat) : Int) w' ∧ Only b w0 w') := Lib.hid fun w0 h => by
              have q := ris_any b s (yrE s k) 45 w0 h hs
              rw [h103, isK_no h103] at q
              exact q
          have F103 := Lib.hid h103; clear h103
          go_wp2_with (first
            | (go_at_call 23; (with_reducible refine (C103.out _ S102.out).mono ?_); rintro e w103 ⟨rfl, hS, hO⟩; have S103 := Lib.hid hS; have O103 := Lib.hid (O102.out.trans hO); have L103 := Lib.hid (L102.out.only hO (by have := HBL.out; omega)); obtain ⟨-, ⟨c0, f0⟩, ⟨c1, f1⟩⟩ := L103.out; obtain ⟨-, -, k1, kf⟩ := hS; clear hO))
          rcases bool_or (isB s (yrE s k) 87) with h104 | h104
          · have C104 : Hid (∀ w0, ScanAt b s ((yrE s k : Nat) : Int) w0 → Calls Tryz.prog 23 #[.pointer (some ⟨b, 0, none⟩), .int .u8 87] w0 fun e w' => e = .returned (.bool false) ∧ ScanAt b s ((yrE s k : Nat) : Int) w' ∧ Only b w0 w') := Lib.hid fun w0 h => by
                have q := ris_any b s (yrE s k) 87 w0 h hs
                rw [h104, isK_no h104] at q
                exact q
            have F104 := Lib.hid h104; clear h104
            have C105 : Hid (∀ w0, ScanAt b s ((yrE s k : Nat) : Int) w0 → Calls Tryz.prog 51 #[.pointer (some ⟨b, 0, none⟩)] w0 fun e w' => e = .returned (.int .i64 ((run_ s (yrE s k) : Nat) : Int)) ∧ ∃ q, w' = w0.drewN q) := Lib.hid fun w0 h => rrun_any b s (yrE s k) w0 h hye hs
            by_cases g105 : run_ s (yrE s k) = 3
            · have hd105 := dg_yes (s := s) (k := yrE s k) (n := 3) (by omega)
              have C106 : Hid (∀ w0, ScanAt b s ((yrE s k : Nat) : Int) w0 → Calls Tryz.prog 49 #[.pointer (some ⟨b, 0, none⟩), .int .i64 3] w0 fun e w' => e = .returned (.tuple #[.int .i64 ((num_ s (yrE s k) 3 : Nat) : Int), .bool true]) ∧ ScanAt b s ((yrE s k + 3 : Nat) : Int) w' ∧ Only b w0 w') := Lib.hid fun w0 h => by
                  have q := take_any b s (yrE s k) 3 3 rfl w0 h hye hs (by omega)
                  rw [hd105.1, hd105.2.1, hd105.2.2] at q
                  exact q
              have C107 : Hid (∀ w0, Calls Tryz.prog 52 #[.agg #[.int .i64 1, .int .i64 Y, .int .i64 1, .int .i64 1]] w0 fun e w' => e = .returned (.tuple #[.int .i64 (dayR 1 Y 1 1), .int .i64 (dayE 1 Y 1 1)]) ∧ Below w0.heap.size w0 w') := Lib.hid fun w0 => refDay_any 1 Y 1 1 w0
              have nb : num_ s (yrE s k) 3 < 1000 := by have := num_lt (s := s) (k := yrE s k) (n := 3) (by omega); simpa using this
              have g105b : ((run_ s (yrE s k) : Int) == 3) = true := by rw [g105]; rfl
              obtain ⟨RN, hRN⟩ : ∃ R, run_ s (yrE s k) = R := ⟨_, rfl⟩; rw [hRN] at C105 g105b
              obtain ⟨N, hN⟩ : ∃ N, num_ s (yrE s k) 3 = N := ⟨_, rfl⟩; rw [hN] at C106 nb
              by_cases hDE : dayE 1 Y 1 1 = 0
              · obtain ⟨v1, v2, -⟩ := ord_year hDE; obtain ⟨b1, b2⟩ := dayE_bd hDE
                have C108 : Hid (∀ w0, Calls Tryz.prog 53 #[.int .i64 1, .int .i64 Y] w0 fun e w' => e = .returned (.int .i64 (Dm.yearDays 1 Y)) ∧ Below w0.heap.size w0 w') := Lib.hid fun w0 => YearDays_any 1 Y w0 (by decide) (by decide) (by omega) (by omega)
                rcases (show (N : Int) < 1 ∨ (¬ (N : Int) < 1 ∧ Dm.yearDays 1 Y < (N : Int)) ∨ (¬ (N : Int) < 1 ∧ ¬ Dm.yearDays 1 Y < (N : Int)) by omega) with g1 | ⟨g1, g2⟩ | ⟨g1, g2⟩
                · obtain ⟨o1, o2⟩ := ord_bad2 hDE (.inl g1)
                  have d1 : decide ((N : Int) < 1) = true := decide_eq_true g1; have d1n : decide (N < 1) = true := decide_eq_true (by omega)
                  obtain ⟨DR, hDR⟩ : ∃ x, dayR 1 Y 1 1 = x := ⟨_, rfl⟩; rw [hDR] at b1 b2 C107; rw [hDE] at C107
                  have HP : Hid (dayP s k = ⟨0, false, 3, -1, yrE s k + 3⟩) := Lib.hid (by simp [dayP, dayA, ordP, hY, HYY.out, F103.out, isK_no F103.out, F104.out, g105, hN, o1, o2])
                  have CBA : Hid (∀ w0, Calls Tryz.prog 28 #[.int .i64 3] w0 fun e w' => e = .returned (.agg #[.int .i64 3, .int .i64 (-1)]) ∧ Below w0.heap.size w0 w') := Lib.hid fun w0 => badR_any _ w0
                  go_wp2_with (first
                    | (go_at_call 23; (with_reducible refine (C104.out _ S103.out).mono ?_); rintro e w104 ⟨rfl, hS, hO⟩; have S104 := Lib.hid hS; have O104 := Lib.hid (O103.out.trans hO); have L104 := Lib.hid (L103.out.only hO (by have := HBL.out; omega)); obtain ⟨-, ⟨c0, f0⟩, ⟨c1, f1⟩⟩ := L104.out; obtain ⟨-, -, k1, kf⟩ := hS; clear hO)
                    | (go_at_call 51; (with_reducible refine (C105.out _ S104.out).mono ?_); rintro e w105 ⟨rfl, q, rfl⟩; have hsa := S104.out.drewN q; have hoa := O104.out.drewN q; have hla := L104.out.drewN q; (try simp only [World.drewN_drewN] at hsa hoa hla); have S105 := Lib.hid hsa; have O105 := Lib.hid hoa; have L105 := Lib.hid hla; clear hsa hoa hla)
                    | (go_at_call 49; (with_reducible refine (C106.out _ S105.out).mono ?_); rintro e w106 ⟨rfl, hS, hO⟩; have S106 := Lib.hid hS; have O106 := Lib.hid (O105.out.trans hO); have L106 := Lib.hid (L105.out.only hO (by have := HBL.out; omega)); obtain ⟨-, ⟨c0, f0⟩, ⟨c1, f1⟩⟩ := L106.out; clear hS hO)
                    | (go_at_call 52; (with_reducible refine (C107.out _).mono ?_); rintro e w107 ⟨rfl, hb⟩; have S107 := Lib.hid (S106.out.call hb); have O107 := Lib.hid (O106.out.then hb HBW.out); have L107 := Lib.hid (L106.out.call hb); obtain ⟨-, ⟨c0, f0⟩, ⟨c1, f1⟩⟩ := L107.out; clear hb)
                    | (go_at_call 28; (with_reducible refine (CBA.out _).mono ?_); rintro e wz ⟨rfl, hb⟩; have HSZ := Lib.hid (S107.out.call hb); have HOZ := Lib.hid (O107.out.then hb HBW.out); have HLZ := Lib.hid (L107.out.call hb); obtain ⟨-, ⟨c0, f0⟩, ⟨c1, f1⟩⟩ := HLZ.out; clear hb))
                  have hq := HLZ.out.put (.int .i64 3) (.int .i64 (-1))
                  exact bodyPost_ret (v := .tuple #[.int .i64 (0), .bool false, .agg #[.int .i64 3, .int .i64 (-1)]]) (by simp [results, Tryz.results22, go_sem, hq.2.1.1, hq.2.2.1]) rfl ⟨0, by rw [HP.out], by rw [HP.out]; exact fun h => absurd h three_ne, by rw [HP.out]; exact ScanAt.res HSZ.out HBL.out _ _, HOZ.out.res HBL.out _ _⟩
                · obtain ⟨o1, o2⟩ := ord_bad2 hDE (.inr g2)
                  have d1 : decide ((N : Int) < 1) = false := decide_eq_false g1; have d1n : decide (N < 1) = false := decide_eq_false (by omega)
                  obtain ⟨DR, hDR⟩ : ∃ x, dayR 1 Y 1 1 = x := ⟨_, rfl⟩; rw [hDR] at b1 b2 C107; rw [hDE] at C107
                  obtain ⟨YL, hYL⟩ : ∃ x, Dm.yearDays 1 Y = x := ⟨_, rfl⟩; rw [hYL] at g2 C108
                  have d2 : decide (YL < (N : Int)) = true := decide_eq_true g2
                  have HP : Hid (dayP s k = ⟨0, false, 3, -1, yrE s k + 3⟩) := Lib.hid (by simp [dayP, dayA, ordP, hY, HYY.out, F103.out, isK_no F103.out, F104.out, g105, hN, o1, o2])
                  have CBA : Hid (∀ w0, Calls Tryz.prog 28 #[.int .i64 3] w0 fun e w' => e = .returned (.agg #[.int .i64 3, .int .i64 (-1)]) ∧ Below w0.heap.size w0 w') := Lib.hid fun w0 => badR_any _ w0
                  go_wp2_with (first
                    | (go_at_call 23; (with_reducible refine (C104.out _ S103.out).mono ?_); rintro e w104 ⟨rfl, hS, hO⟩; have S104 := Lib.hid hS; have O104 := Lib.hid (O103.out.trans hO); have L104 := Lib.hid (L103.out.only hO (by have := HBL.out; omega)); obtain ⟨-, ⟨c0, f0⟩, ⟨c1, f1⟩⟩ := L104.out; obtain ⟨-, -, k1, kf⟩ := hS; clear hO)
                    | (go_at_call 51; (with_reducible refine (C105.out _ S104.out).mono ?_); rintro e w105 ⟨rfl, q, rfl⟩; have hsa := S104.out.drewN q; have hoa := O104.out.drewN q; have hla := L104.out.drewN q; (try simp only [World.drewN_drewN] at hsa hoa hla); have S105 := Lib.hid hsa; have O105 := Lib.hid hoa; have L105 := Lib.hid hla; clear hsa hoa hla)
                    | (go_at_call 49; (with_reducible refine (C106.out _ S105.out).mono ?_); rintro e w106 ⟨rfl, hS, hO⟩; have S106 := Lib.hid hS; have O106 := Lib.hid (O105.out.trans hO); have L106 := Lib.hid (L105.out.only hO (by have := HBL.out; omega)); obtain ⟨-, ⟨c0, f0⟩, ⟨c1, f1⟩⟩ := L106.out; clear hS hO)
                    | (go_at_call 52; (with_reducible refine (C107.out _).mono ?_); rintro e w107 ⟨rfl, hb⟩; have S107 := Lib.hid (S106.out.call hb); have O107 := Lib.hid (O106.out.then hb HBW.out); have L107 := Lib.hid (L106.out.call hb); obtain ⟨-, ⟨c0, f0⟩, ⟨c1, f1⟩⟩ := L107.out; clear hb)
                    | (go_at_call 53; (with_reducible refine (C108.out _).mono ?_); rintro e w108 ⟨rfl, hb⟩; have S108 := Lib.hid (S107.out.call hb); have O108 := Lib.hid (O107.out.then hb HBW.out); have L108 := Lib.hid (L107.out.call hb); obtain ⟨-, ⟨c0, f0⟩, ⟨c1, f1⟩⟩ := L108.out; clear hb)
                    | (go_at_call 28; (with_reducible refine (CBA.out _).mono ?_); rintro e wz ⟨rfl, hb⟩; have HSZ := Lib.hid (S108.out.call hb); have HOZ := Lib.hid (O108.out.then hb HBW.out); have HLZ := Lib.hid (L108.out.call hb); obtain ⟨-, ⟨c0, f0⟩, ⟨c1, f1⟩⟩ := HLZ.out; clear hb))
                  have hq := HLZ.out.put (.int .i64 3) (.int .i64 (-1))
                  exact bodyPost_ret (v := .tuple #[.int .i64 (0), .bool false, .agg #[.int .i64 3, .int .i64 (-1)]]) (by simp [results, Tryz.results22, go_sem, hq.2.1.1, hq.2.2.1]) rfl ⟨0, by rw [HP.out], by rw [HP.out]; exact fun h => absurd h three_ne, by rw [HP.out]; exact ScanAt.res HSZ.out HBL.out _ _, HOZ.out.res HBL.out _ _⟩
                · obtain ⟨o1, o2⟩ := ord_good hDE g1 g2
                  have d1 : decide ((N : Int) < 1) = false := decide_eq_false g1; have d1n : decide (N < 1) = false := decide_eq_false (by omega)
                  obtain ⟨DR, hDR⟩ : ∃ x, dayR 1 Y 1 1 = x := ⟨_, rfl⟩; rw [hDR] at b1 b2 C107 o2; rw [hDE] at C107
                  obtain ⟨YL, hYL⟩ : ∃ x, Dm.yearDays 1 Y = x := ⟨_, rfl⟩; rw [hYL] at g2 C108
                  have d2 : decide (YL < (N : Int)) = false := decide_eq_false g2
                  have HP : Hid (dayP s k = ⟨DR + (N : Int) - 1, false, 0, -1, yrE s k + 3⟩) := Lib.hid (by simp [dayP, dayA, ordP, hY, HYY.out, F103.out, isK_no F103.out, F104.out, g105, hN, o1, o2])
                  have CFI : Hid (∀ w0, Calls Tryz.prog 29 #[] w0 fun e w' => e = .returned (.agg #[.int .i64 0, .int .i64 (-1)]) ∧ Below w0.heap.size w0 w') := Lib.hid fineR_any
                  go_wp2_with (first
                    | (go_at_call 23; (with_reducible refine (C104.out _ S103.out).mono ?_); rintro e w104 ⟨rfl, hS, hO⟩; have S104 := Lib.hid hS; have O104 := Lib.hid (O103.out.trans hO); have L104 := Lib.hid (L103.out.only hO (by have := HBL.out; omega)); obtain ⟨-, ⟨c0, f0⟩, ⟨c1, f1⟩⟩ := L104.out; obtain ⟨-, -, k1, kf⟩ := hS; clear hO)
                    | (go_at_call 51; (with_reducible refine (C105.out _ S104.out).mono ?_); rintro e w105 ⟨rfl, q, rfl⟩; have hsa := S104.out.drewN q; have hoa := O104.out.drewN q; have hla := L104.out.drewN q; (try simp only [World.drewN_drewN] at hsa hoa hla); have S105 := Lib.hid hsa; have O105 := Lib.hid hoa; have L105 := Lib.hid hla; clear hsa hoa hla)
                    | (go_at_call 49; (with_reducible refine (C106.out _ S105.out).mono ?_); rintro e w106 ⟨rfl, hS, hO⟩; have S106 := Lib.hid hS; have O106 := Lib.hid (O105.out.trans hO); have L106 := Lib.hid (L105.out.only hO (by have := HBL.out; omega)); obtain ⟨-, ⟨c0, f0⟩, ⟨c1, f1⟩⟩ := L106.out; clear hS hO)
                    | (go_at_call 52; (with_reducible refine (C107.out _).mono ?_); rintro e w107 ⟨rfl, hb⟩; have S107 := Lib.hid (S106.out.call hb); have O107 := Lib.hid (O106.out.then hb HBW.out); have L107 := Lib.hid (L106.out.call hb); obtain ⟨-, ⟨c0, f0⟩, ⟨c1, f1⟩⟩ := L107.out; clear hb)
                    | (go_at_call 53; (with_reducible refine (C108.out _).mono ?_); rintro e w108 ⟨rfl, hb⟩; have S108 := Lib.hid (S107.out.call hb); have O108 := Lib.hid (O107.out.then hb HBW.out); have L108 := Lib.hid (L107.out.call hb); obtain ⟨-, ⟨c0, f0⟩, ⟨c1, f1⟩⟩ := L108.out; clear hb)
                    | (go_at_call 29; (with_reducible refine (CFI.out _).mono ?_); rintro e wz ⟨rfl, hb⟩; have HSZ := Lib.hid (S108.out.call hb); have HOZ := Lib.hid (O108.out.then hb HBW.out); have HLZ := Lib.hid (L108.out.call hb); obtain ⟨-, ⟨c0, f0⟩, ⟨c1, f1⟩⟩ := HLZ.out; clear hb))
                  have hq := HLZ.out.put (.int .i64 0) (.int .i64 (-1))
                  exact bodyPost_ret (v := .tuple #[.int .i64 (DR + (N : Int) - 1), .bool false, .agg #[.int .i64 0, .int .i64 (-1)]]) (by simp [results, Tryz.results22, go_sem, hq.2.1.1, hq.2.2.1]) rfl ⟨DR + (N : Int) - 1, by rw [HP.out], by rw [HP.out]; exact fun _ => by first | rfl | (dsimp only; omega), by rw [HP.out]; exact ScanAt.res HSZ.out HBL.out _ _, HOZ.out.res HBL.out _ _⟩
              · obtain ⟨o1, o2, o3⟩ := ord_bad1 (n := (N : Int)) hDE
                obtain ⟨XE, hXE⟩ : ∃ x, dayE 1 Y 1 1 = x := ⟨_, rfl⟩; rw [hXE] at hDE o1 C107; rw [o3] at C107
                have hxb : (XE == 0) = false := by simpa using hDE
                have HP : Hid (dayP s k = ⟨0, false, XE, -1, yrE s k + 3⟩) := Lib.hid (by simp [dayP, dayA, ordP, hY, HYY.out, F103.out, isK_no F103.out, F104.out, g105, hN, o1, o2])
                have CBA : Hid (∀ w0, Calls Tryz.prog 28 #[.int .i64 XE] w0 fun e w' => e = .returned (.agg #[.int .i64 XE, .int .i64 (-1)]) ∧ Below w0.heap.size w0 w') := Lib.hid fun w0 => badR_any _ w0
                go_wp2_with (first
                  | (go_at_call 23; (with_reducible refine (C104.out _ S103.out).mono ?_); rintro e w104 ⟨rfl, hS, hO⟩; have S104 := Lib.hid hS; have O104 := Lib.hid (O103.out.trans hO); have L104 := Lib.hid (L103.out.only hO (by have := HBL.out; omega)); obtain ⟨-, ⟨c0, f0⟩, ⟨c1, f1⟩⟩ := L104.out; obtain ⟨-, -, k1, kf⟩ := hS; clear hO)
                  | (go_at_call 51; (with_reducible refine (C105.out _ S104.out).mono ?_); rintro e w105 ⟨rfl, q, rfl⟩; have hsa := S104.out.drewN q; have hoa := O104.out.drewN q; have hla := L104.out.drewN q; (try simp only [World.drewN_drewN] at hsa hoa hla); have S105 := Lib.hid hsa; have O105 := Lib.hid hoa; have L105 := Lib.hid hla; clear hsa hoa hla)
                  | (go_at_call 49; (with_reducible refine (C106.out _ S105.out).mono ?_); rintro e w106 ⟨rfl, hS, hO⟩; have S106 := Lib.hid hS; have O106 := Lib.hid (O105.out.trans hO); have L106 := Lib.hid (L105.out.only hO (by have := HBL.out; omega)); obtain ⟨-, ⟨c0, f0⟩, ⟨c1, f1⟩⟩ := L106.out; clear hS hO)
                  | (go_at_call 52; (with_reducible refine (C107.out _).mono ?_); rintro e w107 ⟨rfl, hb⟩; have S107 := Lib.hid (S106.out.call hb); have O107 := Lib.hid (O106.out.then hb HBW.out); have L107 := Lib.hid (L106.out.call hb); obtain ⟨-, ⟨c0, f0⟩, ⟨c1, f1⟩⟩ := L107.out; clear hb)
                  | (go_at_call 28; (with_reducible refine (CBA.out _).mono ?_); rintro e wz ⟨rfl, hb⟩; have HSZ := Lib.hid (S107.out.call hb); have HOZ := Lib.hid (O107.out.then hb HBW.out); have HLZ := Lib.hid (L107.out.call hb); obtain ⟨-, ⟨c0, f0⟩, ⟨c1, f1⟩⟩ := HLZ.out; clear hb))
                have hq := HLZ.out.put (.int .i64 XE) (.int .i64 (-1))
                exact bodyPost_ret (v := .tuple #[.int .i64 (0), .bool false, .agg #[.int .i64 XE, .int .i64 (-1)]]) (by simp [results, Tryz.results22, go_sem, hq.2.1.1, hq.2.2.1]) rfl ⟨0, by rw [HP.out], by rw [HP.out]; exact fun h => absurd h hDE, by rw [HP.out]; exact ScanAt.res HSZ.out HBL.out _ _, HOZ.out.res HBL.out _ _⟩
            · have g105b : ((run_ s (yrE s k) : Int) == 3) = false := by simp; omega
              obtain ⟨RN, hRN⟩ : ∃ R, run_ s (yrE s k) = R := ⟨_, rfl⟩; rw [hRN] at C105 g105b
              go_wp2_with (first
                | (go_at_call 23; (with_reducible refine (C104.out _ S103.out).mono ?_); rintro e w104 ⟨rfl, hS, hO⟩; have S104 := Lib.hid hS; have O104 := Lib.hid (O103.out.trans hO); have L104 := Lib.hid (L103.out.only hO (by have := HBL.out; omega)); obtain ⟨-, ⟨c0, f0⟩, ⟨c1, f1⟩⟩ := L104.out; obtain ⟨-, -, k1, kf⟩ := hS; clear hO)
                | (go_at_call 51; (with_reducible refine (C105.out _ S104.out).mono ?_); rintro e w105 ⟨rfl, q, rfl⟩; have hsa := S104.out.drewN q; have hoa := O104.out.drewN q; have hla := L104.out.drewN q; (try simp only [World.drewN_drewN] at hsa hoa hla); have S105 := Lib.hid hsa; have O105 := Lib.hid hoa; have L105 := Lib.hid hla; clear hsa hoa hla))
              rcases bool_or (dgB s (yrE s k) 2) with h109 | h109
              · have C109 : Hid (∀ w0, ScanAt b s ((yrE s k : Nat) : Int) w0 → Calls Tryz.prog 49 #[.pointer (some ⟨b, 0, none⟩), .int .i64 2] w0 fun e w' => e = .returned (.tuple #[.int .i64 ((dgN s (yrE s k) 2 : Nat) : Int), .bool false]) ∧ ScanAt b s ((dgK s (yrE s k) 2 : Nat) : Int) w' ∧ Only b w0 w') := Lib.hid fun w0 h => by
                    have q := take_any b s (yrE s k) 2 2 rfl w0 h hye hs (by omega)
                    rw [h109] at q
                    exact q
                have hx109 := dgN_lt s (yrE s k) 2
                have F109 := Lib.hid h109; clear h109
                have HP : Hid (dayP s k = ⟨0, false, 5, ((dgK s (yrE s k) 2 : Nat) : Int), dgK s (yrE s k) 2⟩) := Lib.hid (by simp [dayP, dayA, mdP, badD, hY, F103.out, isK_no F103.out, F104.out, g105, F109.out])
                have CFO : Hid (∀ w0, ScanAt b s ((dgK s (yrE s k) 2 : Nat) : Int) w0 → Calls Tryz.prog 26 #[.pointer (some ⟨b, 0, none⟩)] w0 fun e w' => e = .returned (.agg #[.int .i64 5, .int .i64 ((dgK s (yrE s k) 2 : Nat) : Int)]) ∧ Below w0.heap.size w0 w') := Lib.hid fun w0 h => form_any b s (dgK s (yrE s k) 2) w0 h
                go_wp2_with (first
                  | (go_at_call 49; (with_reducible refine (C109.out _ S105.out).mono ?_); rintro e w109 ⟨rfl, hS, hO⟩; have S109 := Lib.hid hS; have O109 := Lib.hid (O105.out.trans hO); have L109 := Lib.hid (L105.out.only hO (by have := HBL.out; omega)); obtain ⟨-, ⟨c0, f0⟩, ⟨c1, f1⟩⟩ := L109.out; obtain ⟨-, -, k1, kf⟩ := hS; clear hO)
                  | (go_at_call 26; (with_reducible refine (CFO.out _ S109.out).mono ?_); rintro e wz ⟨rfl, hb⟩; have HSZ := Lib.hid (S109.out.call hb); have HOZ := Lib.hid (O109.out.then hb HBW.out); have HLZ := Lib.hid (L109.out.call hb); obtain ⟨-, ⟨c0, f0⟩, ⟨c1, f1⟩⟩ := HLZ.out; clear hb))
                have hq := HLZ.out.put (.int .i64 5) (.int .i64 (((dgK s (yrE s k) 2 : Nat) : Int)))
                exact bodyPost_ret (v := .tuple #[.int .i64 (0), .bool false, .agg #[.int .i64 5, .int .i64 (((dgK s (yrE s k) 2 : Nat) : Int))]]) (by simp [results, Tryz.results22, go_sem, hq.2.1.1, hq.2.2.1]) rfl ⟨0, by rw [HP.out], by rw [HP.out]; exact fun h => absurd h five_ne, by rw [HP.out]; exact ScanAt.res HSZ.out HBL.out _ _, HOZ.out.res HBL.out _ _⟩
              · have C109 : Hid (∀ w0, ScanAt b s ((yrE s k : Nat) : Int) w0 → Calls Tryz.prog 49 #[.pointer (some ⟨b, 0, none⟩), .int .i64 2] w0 fun e w' => e = .returned (.tuple #[.int .i64 ((dgN s (yrE s k) 2 : Nat) : Int), .bool true]) ∧ ScanAt b s ((dgK s (yrE s k) 2 : Nat) : Int) w' ∧ Only b w0 w') := Lib.hid fun w0 h => by
                    have q := take_any b s (yrE s k) 2 2 rfl w0 h hye hs (by omega)
                    rw [h109] at q
                    exact q
                have hx109 := dgN_lt s (yrE s k) 2
                have F109 := Lib.hid h109; clear h109
                go_wp2_with (first
                  | (go_at_call 49; (with_reducible refine (C109.out _ S105.out).mono ?_); rintro e w109 ⟨rfl, hS, hO⟩; have S109 := Lib.hid hS; have O109 := Lib.hid (O105.out.trans hO); have L109 := Lib.hid (L105.out.only hO (by have := HBL.out; omega)); obtain ⟨-, ⟨c0, f0⟩, ⟨c1, f1⟩⟩ := L109.out; obtain ⟨-, -, k1, kf⟩ := hS; clear hO))
                rcases bool_or (dgB s (dgK s (yrE s k) 2) 2) with h110 | h110
                · have C110 : Hid (∀ w0, ScanAt b s ((dgK s (yrE s k) 2 : Nat) : Int) w0 → Calls Tryz.prog 49 #[.pointer (some ⟨b, 0, none⟩), .int .i64 2] w0 fun e w' => e = .returned (.tuple #[.int .i64 ((dgN s (dgK s (yrE s k) 2) 2 : Nat) : Int), .bool false]) ∧ ScanAt b s ((dgK s (dgK s (yrE s k) 2) 2 : Nat) : Int) w' ∧ Only b w0 w') := Lib.hid fun w0 h => by
                      have q := take_any b s (dgK s (yrE s k) 2) 2 2 rfl w0 h (dgK_le hye) hs (by omega)
                      rw [h110] at q
                      exact q
                  have hx110 := dgN_lt s (dgK s (yrE s k) 2) 2
                  have F110 := Lib.hid h110; clear h110
                  have HP : Hid (dayP s k = ⟨0, false, 5, ((dgK s (dgK s (yrE s k) 2) 2 : Nat) : Int), dgK s (dgK s (yrE s k) 2) 2⟩) := Lib.hid (by simp [dayP, dayA, mdP, badD, hY, F103.out, isK_no F103.out, F104.out, g105, F109.out, F110.out])
                  have CFO : Hid (∀ w0, ScanAt b s ((dgK s (dgK s (yrE s k) 2) 2 : Nat) : Int) w0 → Calls Tryz.prog 26 #[.pointer (some ⟨b, 0, none⟩)] w0 fun e w' => e = .returned (.agg #[.int .i64 5, .int .i64 ((dgK s (dgK s (yrE s k) 2) 2 : Nat) : Int)]) ∧ Below w0.heap.size w0 w') := Lib.hid fun w0 h => form_any b s (dgK s (dgK s (yrE s k) 2) 2) w0 h
                  go_wp2_with (first
                    | (go_at_call 49; (with_reducible refine (C110.out _ S109.out).mono ?_); rintro e w110 ⟨rfl, hS, hO⟩; have S110 := Lib.hid hS; have O110 := Lib.hid (O109.out.trans hO); have L110 := Lib.hid (L109.out.only hO (by have := HBL.out; omega)); obtain ⟨-, ⟨c0, f0⟩, ⟨c1, f1⟩⟩ := L110.out; obtain ⟨-, -, k1, kf⟩ := hS; clear hO)
                    | (go_at_call 26; (with_reducible refine (CFO.out _ S110.out).mono ?_); rintro e wz ⟨rfl, hb⟩; have HSZ := Lib.hid (S110.out.call hb); have HOZ := Lib.hid (O110.out.then hb HBW.out); have HLZ := Lib.hid (L110.out.call hb); obtain ⟨-, ⟨c0, f0⟩, ⟨c1, f1⟩⟩ := HLZ.out; clear hb))
                  have hq := HLZ.out.put (.int .i64 5) (.int .i64 (((dgK s (dgK s (yrE s k) 2) 2 : Nat) : Int)))
                  exact bodyPost_ret (v := .tuple #[.int .i64 (0), .bool false, .agg #[.int .i64 5, .int .i64 (((dgK s (dgK s (yrE s k) 2) 2 : Nat) : Int))]]) (by simp [results, Tryz.results22, go_sem, hq.2.1.1, hq.2.2.1]) rfl ⟨0, by rw [HP.out], by rw [HP.out]; exact fun h => absurd h five_ne, by rw [HP.out]; exact ScanAt.res HSZ.out HBL.out _ _, HOZ.out.res HBL.out _ _⟩
                · have C110 : Hid (∀ w0, ScanAt b s ((dgK s (yrE s k) 2 : Nat) : Int) w0 → Calls Tryz.prog 49 #[.pointer (some ⟨b, 0, none⟩), .int .i64 2] w0 fun e w' => e = .returned (.tuple #[.int .i64 ((dgN s (dgK s (yrE s k) 2) 2 : Nat) : Int), .bool true]) ∧ ScanAt b s ((dgK s (dgK s (yrE s k) 2) 2 : Nat) : Int) w' ∧ Only b w0 w') := Lib.hid fun w0 h => by
                      have q := take_any b s (dgK s (yrE s k) 2) 2 2 rfl w0 h (dgK_le hye) hs (by omega)
                      rw [h110] at q
                      exact q
                  have hx110 := dgN_lt s (dgK s (yrE s k) 2) 2
                  have F110 := Lib.hid h110; clear h110
                  have C111 : Hid (∀ w0, Calls Tryz.prog 52 #[.agg #[.int .i64 1, .int .i64 Y, .int .i64 ((dgN s (yrE s k) 2 : Nat) : Int), .int .i64 ((dgN s (dgK s (yrE s k) 2) 2 : Nat) : Int)]] w0 fun e w' => e = .returned (.tuple #[.int .i64 (dayR 1 Y ((dgN s (yrE s k) 2 : Nat) : Int) ((dgN s (dgK s (yrE s k) 2) 2 : Nat) : Int)), .int .i64 (dayE 1 Y ((dgN s (yrE s k) 2 : Nat) : Int) ((dgN s (dgK s (yrE s k) 2) 2 : Nat) : Int))]) ∧ Below w0.heap.size w0 w') := Lib.hid fun w0 => refDay_any 1 Y _ _ w0
                  obtain ⟨XR, hXR⟩ : ∃ x, dayR 1 Y ((dgN s (yrE s k) 2 : Nat) : Int) ((dgN s (dgK s (yrE s k) 2) 2 : Nat) : Int) = x := ⟨_, rfl⟩; obtain ⟨XE, hXE⟩ : ∃ x, dayE 1 Y ((dgN s (yrE s k) 2 : Nat) : Int) ((dgN s (dgK s (yrE s k) 2) 2 : Nat) : Int) = x := ⟨_, rfl⟩; rw [hXR, hXE] at C111
                  by_cases hxe : XE = 0
                  · subst hxe
                    have HP : Hid (dayP s k = ⟨XR, false, 0, -1, dgK s (dgK s (yrE s k) 2) 2⟩) := Lib.hid (by simp [dayP, dayA, mdP, hY, HYY.out, F103.out, isK_no F103.out, F104.out, g105, F109.out, F110.out, hXR, hXE])
                    have CFI : Hid (∀ w0, Calls Tryz.prog 29 #[] w0 fun e w' => e = .returned (.agg #[.int .i64 0, .int .i64 (-1)]) ∧ Below w0.heap.size w0 w') := Lib.hid fineR_any
                    go_wp2_with (first
                      | (go_at_call 49; (with_reducible refine (C110.out _ S109.out).mono ?_); rintro e w110 ⟨rfl, hS, hO⟩; have S110 := Lib.hid hS; have O110 := Lib.hid (O109.out.trans hO); have L110 := Lib.hid (L109.out.only hO (by have := HBL.out; omega)); obtain ⟨-, ⟨c0, f0⟩, ⟨c1, f1⟩⟩ := L110.out; obtain ⟨-, -, k1, kf⟩ := hS; clear hO)
                      | (go_at_call 52; (with_reducible refine (C111.out _).mono ?_); rintro e w111 ⟨rfl, hb⟩; have S111 := Lib.hid (S110.out.call hb); have O111 := Lib.hid (O110.out.then hb HBW.out); have L111 := Lib.hid (L110.out.call hb); obtain ⟨-, ⟨c0, f0⟩, ⟨c1, f1⟩⟩ := L111.out; clear hb)
                      | (go_at_call 29; (with_reducible refine (CFI.out _).mono ?_); rintro e wz ⟨rfl, hb⟩; have HSZ := Lib.hid (S111.out.call hb); have HOZ := Lib.hid (O111.out.then hb HBW.out); have HLZ := Lib.hid (L111.out.call hb); obtain ⟨-, ⟨c0, f0⟩, ⟨c1, f1⟩⟩ := HLZ.out; clear hb))
                    have hq := HLZ.out.put (.int .i64 0) (.int .i64 (-1))
                    exact bodyPost_ret (v := .tuple #[.int .i64 (XR), .bool false, .agg #[.int .i64 0, .int .i64 (-1)]]) (by simp [results, Tryz.results22, go_sem, hq.2.1.1, hq.2.2.1]) rfl ⟨XR, by rw [HP.out], by rw [HP.out]; exact fun _ => by first | rfl | (dsimp only; omega), by rw [HP.out]; exact ScanAt.res HSZ.out HBL.out _ _, HOZ.out.res HBL.out _ _⟩
                  · have hxb : (XE == 0) = false := by simpa using hxe
                    have HP : Hid (dayP s k = ⟨XR, false, XE, -1, dgK s (dgK s (yrE s k) 2) 2⟩) := Lib.hid (by simp [dayP, dayA, mdP, hY, HYY.out, F103.out, isK_no F103.out, F104.out, g105, F109.out, F110.out, hXR, hXE])
                    have CBA : Hid (∀ w0, Calls Tryz.prog 28 #[.int .i64 XE] w0 fun e w' => e = .returned (.agg #[.int .i64 XE, .int .i64 (-1)]) ∧ Below w0.heap.size w0 w') := Lib.hid fun w0 => badR_any _ w0
                    go_wp2_with (first
                      | (go_at_call 49; (with_reducible refine (C110.out _ S109.out).mono ?_); rintro e w110 ⟨rfl, hS, hO⟩; have S110 := Lib.hid hS; have O110 := Lib.hid (O109.out.trans hO); have L110 := Lib.hid (L109.out.only hO (by have := HBL.out; omega)); obtain ⟨-, ⟨c0, f0⟩, ⟨c1, f1⟩⟩ := L110.out; obtain ⟨-, -, k1, kf⟩ := hS; clear hO)
                      | (go_at_call 52; (with_reducible refine (C111.out _).mono ?_); rintro e w111 ⟨rfl, hb⟩; have S111 := Lib.hid (S110.out.call hb); have O111 := Lib.hid (O110.out.then hb HBW.out); have L111 := Lib.hid (L110.out.call hb); obtain ⟨-, ⟨c0, f0⟩, ⟨c1, f1⟩⟩ := L111.out; clear hb)
                      | (go_at_call 28; (with_reducible refine (CBA.out _).mono ?_); rintro e wz ⟨rfl, hb⟩; have HSZ := Lib.hid (S111.out.call hb); have HOZ := Lib.hid (O111.out.then hb HBW.out); have HLZ := Lib.hid (L111.out.call hb); obtain ⟨-, ⟨c0, f0⟩, ⟨c1, f1⟩⟩ := HLZ.out; clear hb))
                    have hq := HLZ.out.put (.int .i64 XE) (.int .i64 (-1))
                    exact bodyPost_ret (v := .tuple #[.int .i64 (0), .bool false, .agg #[.int .i64 XE, .int .i64 (-1)]]) (by simp [results, Tryz.results22, go_sem, hq.2.1.1, hq.2.2.1]) rfl ⟨0, by rw [HP.out], by rw [HP.out]; exact fun h => absurd h hxe, by rw [HP.out]; exact ScanAt.res HSZ.out HBL.out _ _, HOZ.out.res HBL.out _ _⟩
          · have C104 : Hid (∀ w0, ScanAt b s ((yrE s k : Nat) : Int) w0 → Calls Tryz.prog 23 #[.pointer (some ⟨b, 0, none⟩), .int .u8 87] w0 fun e w' => e = .returned (.bool true) ∧ ScanAt b s ((yrE s k + 1 : Nat) : Int) w' ∧ Only b w0 w') := Lib.hid fun w0 h => by
                have q := ris_any b s (yrE s k) 87 w0 h hs
                rw [h104, isK_yes h104] at q
                exact q
            have F104 := Lib.hid h104; clear h104
            go_wp2_with (first
              | (go_at_call 23; (with_reducible refine (C104.out _ S103.out).mono ?_); rintro e w104 ⟨rfl, hS, hO⟩; have S104 := Lib.hid hS; have O104 := Lib.hid (O103.out.trans hO); have L104 := Lib.hid (L103.out.only hO (by have := HBL.out; omega)); obtain ⟨-, ⟨c0, f0⟩, ⟨c1, f1⟩⟩ := L104.out; obtain ⟨-, -, k1, kf⟩ := hS; clear hO))
            rcases bool_or (dgB s (yrE s k + 1) 2) with h112 | h112
            · have C112 : Hid (∀ w0, ScanAt b s ((yrE s k + 1 : Nat) : Int) w0 → Calls Tryz.prog 49 #[.pointer (some ⟨b, 0, none⟩), .int .i64 2] w0 fun e w' => e = .returned (.tuple #[.int .i64 ((dgN s (yrE s k + 1) 2 : Nat) : Int), .bool false]) ∧ ScanAt b s ((dgK s (yrE s k + 1) 2 : Nat) : Int) w' ∧ Only b w0 w') := Lib.hid fun w0 h => by
                  have q := take_any b s (yrE s k + 1) 2 2 rfl w0 h (isB_lt F104.out) hs (by omega)
                  rw [h112] at q
                  exact q
              have hx112 := dgN_lt s (yrE s k + 1) 2
              have F112 := Lib.hid h112; clear h112
              have HP : Hid (dayP s k = ⟨0, false, 5, ((dgK s (yrE s k + 1) 2 : Nat) : Int), dgK s (yrE s k + 1) 2⟩) := Lib.hid (by simp [dayP, dayA, wkP, badD, hY, F103.out, isK_no F103.out, F104.out, F112.out])
              have CFO : Hid (∀ w0, ScanAt b s ((dgK s (yrE s k + 1) 2 : Nat) : Int) w0 → Calls Tryz.prog 26 #[.pointer (some ⟨b, 0, none⟩)] w0 fun e w' => e = .returned (.agg #[.int .i64 5, .int .i64 ((dgK s (yrE s k + 1) 2 : Nat) : Int)]) ∧ Below w0.heap.size w0 w') := Lib.hid fun w0 h => form_any b s (dgK s (yrE s k + 1) 2) w0 h
              go_wp2_with (first
                | (go_at_call 49; (with_reducible refine (C112.out _ S104.out).mono ?_); rintro e w112 ⟨rfl, hS, hO⟩; have S112 := Lib.hid hS; have O112 := Lib.hid (O104.out.trans hO); have L112 := Lib.hid (L104.out.only hO (by have := HBL.out; omega)); obtain ⟨-, ⟨c0, f0⟩, ⟨c1, f1⟩⟩ := L112.out; obtain ⟨-, -, k1, kf⟩ := hS; clear hO)
                | (go_at_call 26; (with_reducible refine (CFO.out _ S112.out).mono ?_); rintro e wz ⟨rfl, hb⟩; have HSZ := Lib.hid (S112.out.call hb); have HOZ := Lib.hid (O112.out.then hb HBW.out); have HLZ := Lib.hid (L112.out.call hb); obtain ⟨-, ⟨c0, f0⟩, ⟨c1, f1⟩⟩ := HLZ.out; clear hb))
              have hq := HLZ.out.put (.int .i64 5) (.int .i64 (((dgK s (yrE s k + 1) 2 : Nat) : Int)))
              exact bodyPost_ret (v := .tuple #[.int .i64 (0), .bool false, .agg #[.int .i64 5, .int .i64 (((dgK s (yrE s k + 1) 2 : Nat) : Int))]]) (by simp [results, Tryz.results22, go_sem, hq.2.1.1, hq.2.2.1]) rfl ⟨0, by rw [HP.out], by rw [HP.out]; exact fun h => absurd h five_ne, by rw [HP.out]; exact ScanAt.res HSZ.out HBL.out _ _, HOZ.out.res HBL.out _ _⟩
            · have C112 : Hid (∀ w0, ScanAt b s ((yrE s k + 1 : Nat) : Int) w0 → Calls Tryz.prog 49 #[.pointer (some ⟨b, 0, none⟩), .int .i64 2] w0 fun e w' => e = .returned (.tuple #[.int .i64 ((dgN s (yrE s k + 1) 2 : Nat) : Int), .bool true]) ∧ ScanAt b s ((dgK s (yrE s k + 1) 2 : Nat) : Int) w' ∧ Only b w0 w') := Lib.hid fun w0 h => by
                  have q := take_any b s (yrE s k + 1) 2 2 rfl w0 h (isB_lt F104.out) hs (by omega)
                  rw [h112] at q
                  exact q
              have hx112 := dgN_lt s (yrE s k + 1) 2
              have F112 := Lib.hid h112; clear h112
              go_wp2_with (first
                | (go_at_call 49; (with_reducible refine (C112.out _ S104.out).mono ?_); rintro e w112 ⟨rfl, hS, hO⟩; have S112 := Lib.hid hS; have O112 := Lib.hid (O104.out.trans hO); have L112 := Lib.hid (L104.out.only hO (by have := HBL.out; omega)); obtain ⟨-, ⟨c0, f0⟩, ⟨c1, f1⟩⟩ := L112.out; obtain ⟨-, -, k1, kf⟩ := hS; clear hO))
              rcases bool_or (dgB s (dgK s (yrE s k + 1) 2) 1) with h113 | h113
              · have C113 : Hid (∀ w0, ScanAt b s ((dgK s (yrE s k + 1) 2 : Nat) : Int) w0 → Calls Tryz.prog 49 #[.pointer (some ⟨b, 0, none⟩), .int .i64 1] w0 fun e w' => e = .returned (.tuple #[.int .i64 ((dgN s (dgK s (yrE s k + 1) 2) 1 : Nat) : Int), .bool false]) ∧ ScanAt b s ((dgK s (dgK s (yrE s k + 1) 2) 1 : Nat) : Int) w' ∧ Only b w0 w') := Lib.hid fun w0 h => by
                    have q := take_any b s (dgK s (yrE s k + 1) 2) 1 1 rfl w0 h (dgK_le (isB_lt F104.out)) hs (by omega)
                    rw [h113] at q
                    exact q
                have hx113 := dgN_lt s (dgK s (yrE s k + 1) 2) 1
                have F113 := Lib.hid h113; clear h113
                have HP : Hid (dayP s k = ⟨0, false, 5, ((dgK s (dgK s (yrE s k + 1) 2) 1 : Nat) : Int), dgK s (dgK s (yrE s k + 1) 2) 1⟩) := Lib.hid (by simp [dayP, dayA, wkP, badD, hY, F103.out, isK_no F103.out, F104.out, F112.out, F113.out])
                have CFO : Hid (∀ w0, ScanAt b s ((dgK s (dgK s (yrE s k + 1) 2) 1 : Nat) : Int) w0 → Calls Tryz.prog 26 #[.pointer (some ⟨b, 0, none⟩)] w0 fun e w' => e = .returned (.agg #[.int .i64 5, .int .i64 ((dgK s (dgK s (yrE s k + 1) 2) 1 : Nat) : Int)]) ∧ Below w0.heap.size w0 w') := Lib.hid fun w0 h => form_any b s (dgK s (dgK s (yrE s k + 1) 2) 1) w0 h
                go_wp2_with (first
                  | (go_at_call 49; (with_reducible refine (C113.out _ S112.out).mono ?_); rintro e w113 ⟨rfl, hS, hO⟩; have S113 := Lib.hid hS; have O113 := Lib.hid (O112.out.trans hO); have L113 := Lib.hid (L112.out.only hO (by have := HBL.out; omega)); obtain ⟨-, ⟨c0, f0⟩, ⟨c1, f1⟩⟩ := L113.out; obtain ⟨-, -, k1, kf⟩ := hS; clear hO)
                  | (go_at_call 26; (with_reducible refine (CFO.out _ S113.out).mono ?_); rintro e wz ⟨rfl, hb⟩; have HSZ := Lib.hid (S113.out.call hb); have HOZ := Lib.hid (O113.out.then hb HBW.out); have HLZ := Lib.hid (L113.out.call hb); obtain ⟨-, ⟨c0, f0⟩, ⟨c1, f1⟩⟩ := HLZ.out; clear hb))
                have hq := HLZ.out.put (.int .i64 5) (.int .i64 (((dgK s (dgK s (yrE s k + 1) 2) 1 : Nat) : Int)))
                exact bodyPost_ret (v := .tuple #[.int .i64 (0), .bool false, .agg #[.int .i64 5, .int .i64 (((dgK s (dgK s (yrE s k + 1) 2) 1 : Nat) : Int))]]) (by simp [results, Tryz.results22, go_sem, hq.2.1.1, hq.2.2.1]) rfl ⟨0, by rw [HP.out], by rw [HP.out]; exact fun h => absurd h five_ne, by rw [HP.out]; exact ScanAt.res HSZ.out HBL.out _ _, HOZ.out.res HBL.out _ _⟩
              · have C113 : Hid (∀ w0, ScanAt b s ((dgK s (yrE s k + 1) 2 : Nat) : Int) w0 → Calls Tryz.prog 49 #[.pointer (some ⟨b, 0, none⟩), .int .i64 1] w0 fun e w' => e = .returned (.tuple #[.int .i64 ((dgN s (dgK s (yrE s k + 1) 2) 1 : Nat) : Int), .bool true]) ∧ ScanAt b s ((dgK s (dgK s (yrE s k + 1) 2) 1 : Nat) : Int) w' ∧ Only b w0 w') := Lib.hid fun w0 h => by
                    have q := take_any b s (dgK s (yrE s k + 1) 2) 1 1 rfl w0 h (dgK_le (isB_lt F104.out)) hs (by omega)
                    rw [h113] at q
                    exact q
                have hx113 := dgN_lt s (dgK s (yrE s k + 1) 2) 1
                have F113 := Lib.hid h113; clear h113
                have C114 : Hid (∀ w0, Calls Tryz.prog 50 #[.int .i64 Y, .int .i64 ((dgN s (yrE s k + 1) 2 : Nat) : Int), .int .i64 ((dgN s (dgK s (yrE s k + 1) 2) 1 : Nat) : Int)] w0 fun e w' => e = .returned (.tuple #[.int .i64 (owR Y ((dgN s (yrE s k + 1) 2 : Nat) : Int) ((dgN s (dgK s (yrE s k + 1) 2) 1 : Nat) : Int)), .int .i64 (owE Y ((dgN s (yrE s k + 1) 2 : Nat) : Int) ((dgN s (dgK s (yrE s k + 1) 2) 1 : Nat) : Int))]) ∧ Below w0.heap.size w0 w') := Lib.hid fun w0 => (refOfWeek_all _ _ _ w0).mono fun e w' ⟨r, x, h1, h2, h3⟩ => by obtain ⟨rfl, rfl⟩ := h2.is; exact ⟨h1, h3⟩
                obtain ⟨XR, hXR⟩ : ∃ x, owR Y ((dgN s (yrE s k + 1) 2 : Nat) : Int) ((dgN s (dgK s (yrE s k + 1) 2) 1 : Nat) : Int) = x := ⟨_, rfl⟩; obtain ⟨XE, hXE⟩ : ∃ x, owE Y ((dgN s (yrE s k + 1) 2 : Nat) : Int) ((dgN s (dgK s (yrE s k + 1) 2) 1 : Nat) : Int) = x := ⟨_, rfl⟩; rw [hXR, hXE] at C114
                by_cases hxe : XE = 0
                · subst hxe
                  have HP : Hid (dayP s k = ⟨XR, false, 0, -1, dgK s (dgK s (yrE s k + 1) 2) 1⟩) := Lib.hid (by simp [dayP, dayA, wkP, hY, HYY.out, F103.out, isK_no F103.out, F104.out, F112.out, F113.out, hXR, hXE])
                  have CFI : Hid (∀ w0, Calls Tryz.prog 29 #[] w0 fun e w' => e = .returned (.agg #[.int .i64 0, .int .i64 (-1)]) ∧ Below w0.heap.size w0 w') := Lib.hid fineR_any
                  go_wp2_with (first
                    | (go_at_call 49; (with_reducible refine (C113.out _ S112.out).mono ?_); rintro e w113 ⟨rfl, hS, hO⟩; have S113 := Lib.hid hS; have O113 := Lib.hid (O112.out.trans hO); have L113 := Lib.hid (L112.out.only hO (by have := HBL.out; omega)); obtain ⟨-, ⟨c0, f0⟩, ⟨c1, f1⟩⟩ := L113.out; obtain ⟨-, -, k1, kf⟩ := hS; clear hO)
                    | (go_at_call 50; (with_reducible refine (C114.out _).mono ?_); rintro e w114 ⟨rfl, hb⟩; have S114 := Lib.hid (S113.out.call hb); have O114 := Lib.hid (O113.out.then hb HBW.out); have L114 := Lib.hid (L113.out.call hb); obtain ⟨-, ⟨c0, f0⟩, ⟨c1, f1⟩⟩ := L114.out; clear hb)
                    | (go_at_call 29; (with_reducible refine (CFI.out _).mono ?_); rintro e wz ⟨rfl, hb⟩; have HSZ := Lib.hid (S114.out.call hb); have HOZ := Lib.hid (O114.out.then hb HBW.out); have HLZ := Lib.hid (L114.out.call hb); obtain ⟨-, ⟨c0, f0⟩, ⟨c1, f1⟩⟩ := HLZ.out; clear hb))
                  have hq := HLZ.out.put (.int .i64 0) (.int .i64 (-1))
                  exact bodyPost_ret (v := .tuple #[.int .i64 (XR), .bool false, .agg #[.int .i64 0, .int .i64 (-1)]]) (by simp [results, Tryz.results22, go_sem, hq.2.1.1, hq.2.2.1]) rfl ⟨XR, by rw [HP.out], by rw [HP.out]; exact fun _ => by first | rfl | (dsimp only; omega), by rw [HP.out]; exact ScanAt.res HSZ.out HBL.out _ _, HOZ.out.res HBL.out _ _⟩
                · have hxb : (XE == 0) = false := by simpa using hxe
                  have HP : Hid (dayP s k = ⟨XR, false, XE, -1, dgK s (dgK s (yrE s k + 1) 2) 1⟩) := Lib.hid (by simp [dayP, dayA, wkP, hY, HYY.out, F103.out, isK_no F103.out, F104.out, F112.out, F113.out, hXR, hXE])
                  have CBA : Hid (∀ w0, Calls Tryz.prog 28 #[.int .i64 XE] w0 fun e w' => e = .returned (.agg #[.int .i64 XE, .int .i64 (-1)]) ∧ Below w0.heap.size w0 w') := Lib.hid fun w0 => badR_any _ w0
                  go_wp2_with (first
                    | (go_at_call 49; (with_reducible refine (C113.out _ S112.out).mono ?_); rintro e w113 ⟨rfl, hS, hO⟩; have S113 := Lib.hid hS; have O113 := Lib.hid (O112.out.trans hO); have L113 := Lib.hid (L112.out.only hO (by have := HBL.out; omega)); obtain ⟨-, ⟨c0, f0⟩, ⟨c1, f1⟩⟩ := L113.out; obtain ⟨-, -, k1, kf⟩ := hS; clear hO)
                    | (go_at_call 50; (with_reducible refine (C114.out _).mono ?_); rintro e w114 ⟨rfl, hb⟩; have S114 := Lib.hid (S113.out.call hb); have O114 := Lib.hid (O113.out.then hb HBW.out); have L114 := Lib.hid (L113.out.call hb); obtain ⟨-, ⟨c0, f0⟩, ⟨c1, f1⟩⟩ := L114.out; clear hb)
                    | (go_at_call 28; (with_reducible refine (CBA.out _).mono ?_); rintro e wz ⟨rfl, hb⟩; have HSZ := Lib.hid (S114.out.call hb); have HOZ := Lib.hid (O114.out.then hb HBW.out); have HLZ := Lib.hid (L114.out.call hb); obtain ⟨-, ⟨c0, f0⟩, ⟨c1, f1⟩⟩ := HLZ.out; clear hb))
                  have hq := HLZ.out.put (.int .i64 XE) (.int .i64 (-1))
                  exact bodyPost_ret (v := .tuple #[.int .i64 (0), .bool false, .agg #[.int .i64 XE, .int .i64 (-1)]]) (by simp [results, Tryz.results22, go_sem, hq.2.1.1, hq.2.2.1]) rfl ⟨0, by rw [HP.out], by rw [HP.out]; exact fun h => absurd h hxe, by rw [HP.out]; exact ScanAt.res HSZ.out HBL.out _ _, HOZ.out.res HBL.out _ _⟩
        · have C103 : Hid (∀ w0, ScanAt b s ((yrE s k : Nat) : Int) w0 → Calls Tryz.prog 23 #[.pointer (some ⟨b, 0, none⟩), .int .u8 45] w0 fun e w' => e = .returned (.bool true) ∧ ScanAt b s ((yrE s k + 1 : Nat) : Int) w' ∧ Only b w0 w') := Lib.hid fun w0 h => by
              have q := ris_any b s (yrE s k) 45 w0 h hs
              rw [h103, isK_yes h103] at q
              exact q
          have F103 := Lib.hid h103; clear h103
          go_wp2_with (first
            | (go_at_call 23; (with_reducible refine (C103.out _ S102.out).mono ?_); rintro e w103 ⟨rfl, hS, hO⟩; have S103 := Lib.hid hS; have O103 := Lib.hid (O102.out.trans hO); have L103 := Lib.hid (L102.out.only hO (by have := HBL.out; omega)); obtain ⟨-, ⟨c0, f0⟩, ⟨c1, f1⟩⟩ := L103.out; obtain ⟨-, -, k1, kf⟩ := hS; clear hO))
          rcases bool_or (isB s (yrE s k + 1) 87) with h115 | h115
          · have C115 : Hid (∀ w0, ScanAt b s ((yrE s k + 1 : Nat) : Int) w0 → Calls Tryz.prog 23 #[.pointer (some ⟨b, 0, none⟩), .int .u8 87] w0 fun e w' => e = .returned (.bool false) ∧ ScanAt b s ((yrE s k + 1 : Nat) : Int) w' ∧ Only b w0 w') := Lib.hid fun w0 h => by
                have q := ris_any b s (yrE s k + 1) 87 w0 h hs
                rw [h115, isK_no h115] at q
                exact q
            have F115 := Lib.hid h115; clear h115
            have C116 : Hid (∀ w0, ScanAt b s ((yrE s k + 1 : Nat) : Int) w0 → Calls Tryz.prog 51 #[.pointer (some ⟨b, 0, none⟩)] w0 fun e w' => e = .returned (.int .i64 ((run_ s (yrE s k + 1) : Nat) : Int)) ∧ ∃ q, w' = w0.drewN q) := Lib.hid fun w0 h => rrun_any b s (yrE s k + 1) w0 h (isB_lt F103.out) hs
            by_cases g116 : run_ s (yrE s k + 1) = 3
            · have hd116 := dg_yes (s := s) (k := yrE s k + 1) (n := 3) (by omega)
              have C117 : Hid (∀ w0, ScanAt b s ((yrE s k + 1 : Nat) : Int) w0 → Calls Tryz.prog 49 #[.pointer (some ⟨b, 0, none⟩), .int .i64 3] w0 fun e w' => e = .returned (.tuple #[.int .i64 ((num_ s (yrE s k + 1) 3 : Nat) : Int), .bool true]) ∧ ScanAt b s ((yrE s k + 1 + 3 : Nat) : Int) w' ∧ Only b w0 w') := Lib.hid fun w0 h => by
                  have q := take_any b s (yrE s k + 1) 3 3 rfl w0 h (isB_lt F103.out) hs (by omega)
                  rw [hd116.1, hd116.2.1, hd116.2.2] at q
                  exact q
              have C118 : Hid (∀ w0, Calls Tryz.prog 52 #[.agg #[.int .i64 1, .int .i64 Y, .int .i64 1, .int .i64 1]] w0 fun e w' => e = .returned (.tuple #[.int .i64 (dayR 1 Y 1 1), .int .i64 (dayE 1 Y 1 1)]) ∧ Below w0.heap.size w0 w') := Lib.hid fun w0 => refDay_any 1 Y 1 1 w0
              have nb : num_ s (yrE s k + 1) 3 < 1000 := by have := num_lt (s := s) (k := yrE s k + 1) (n := 3) (by omega); simpa using this
              have g116b : ((run_ s (yrE s k + 1) : Int) == 3) = true := by rw [g116]; rfl
              obtain ⟨RN, hRN⟩ : ∃ R, run_ s (yrE s k + 1) = R := ⟨_, rfl⟩; rw [hRN] at C116 g116b
              obtain ⟨N, hN⟩ : ∃ N, num_ s (yrE s k + 1) 3 = N := ⟨_, rfl⟩; rw [hN] at C117 nb
              by_cases hDE : dayE 1 Y 1 1 = 0
              · obtain ⟨v1, v2, -⟩ := ord_year hDE; obtain ⟨b1, b2⟩ := dayE_bd hDE
                have C119 : Hid (∀ w0, Calls Tryz.prog 53 #[.int .i64 1, .int .i64 Y] w0 fun e w' => e = .returned (.int .i64 (Dm.yearDays 1 Y)) ∧ Below w0.heap.size w0 w') := Lib.hid fun w0 => YearDays_any 1 Y w0 (by decide) (by decide) (by omega) (by omega)
                rcases (show (N : Int) < 1 ∨ (¬ (N : Int) < 1 ∧ Dm.yearDays 1 Y < (N : Int)) ∨ (¬ (N : Int) < 1 ∧ ¬ Dm.yearDays 1 Y < (N : Int)) by omega) with g1 | ⟨g1, g2⟩ | ⟨g1, g2⟩
                · obtain ⟨o1, o2⟩ := ord_bad2 hDE (.inl g1)
                  have d1 : decide ((N : Int) < 1) = true := decide_eq_true g1; have d1n : decide (N < 1) = true := decide_eq_true (by omega)
                  obtain ⟨DR, hDR⟩ : ∃ x, dayR 1 Y 1 1 = x := ⟨_, rfl⟩; rw [hDR] at b1 b2 C118; rw [hDE] at C118
                  have HP : Hid (dayP s k = ⟨0, true, 3, -1, yrE s k + 1 + 3⟩) := Lib.hid (by simp [dayP, dayA, ordP, hY, HYY.out, F103.out, isK_yes F103.out, F115.out, g116, hN, o1, o2])
                  have CBA : Hid (∀ w0, Calls Tryz.prog 28 #[.int .i64 3] w0 fun e w' => e = .returned (.agg #[.int .i64 3, .int .i64 (-1)]) ∧ Below w0.heap.size w0 w') := Lib.hid fun w0 => badR_any _ w0
                  go_wp2_with (first
                    | (go_at_call 23; (with_reducible refine (C115.out _ S103.out).mono ?_); rintro e w115 ⟨rfl, hS, hO⟩; have S115 := Lib.hid hS; have O115 := Lib.hid (O103.out.trans hO); have L115 := Lib.hid (L103.out.only hO (by have := HBL.out; omega)); obtain ⟨-, ⟨c0, f0⟩, ⟨c1, f1⟩⟩ := L115.out; obtain ⟨-, -, k1, kf⟩ := hS; clear hO)
                    | (go_at_call 51; (with_reducible refine (C116.out _ S115.out).mono ?_); rintro e w116 ⟨rfl, q, rfl⟩; have hsa := S115.out.drewN q; have hoa := O115.out.drewN q; have hla := L115.out.drewN q; (try simp only [World.drewN_drewN] at hsa hoa hla); have S116 := Lib.hid hsa; have O116 := Lib.hid hoa; have L116 := Lib.hid hla; clear hsa hoa hla)
                    | (go_at_call 49; (with_reducible refine (C117.out _ S116.out).mono ?_); rintro e w117 ⟨rfl, hS, hO⟩; have S117 := Lib.hid hS; have O117 := Lib.hid (O116.out.trans hO); have L117 := Lib.hid (L116.out.only hO (by have := HBL.out; omega)); obtain ⟨-, ⟨c0, f0⟩, ⟨c1, f1⟩⟩ := L117.out; clear hS hO)
                    | (go_at_call 52; (with_reducible refine (C118.out _).mono ?_); rintro e w118 ⟨rfl, hb⟩; have S118 := Lib.hid (S117.out.call hb); have O118 := Lib.hid (O117.out.then hb HBW.out); have L118 := Lib.hid (L117.out.call hb); obtain ⟨-, ⟨c0, f0⟩, ⟨c1, f1⟩⟩ := L118.out; clear hb)
                    | (go_at_call 28; (with_reducible refine (CBA.out _).mono ?_); rintro e wz ⟨rfl, hb⟩; have HSZ := Lib.hid (S118.out.call hb); have HOZ := Lib.hid (O118.out.then hb HBW.out); have HLZ := Lib.hid (L118.out.call hb); obtain ⟨-, ⟨c0, f0⟩, ⟨c1, f1⟩⟩ := HLZ.out; clear hb))
                  have hq := HLZ.out.put (.int .i64 3) (.int .i64 (-1))
                  exact bodyPost_ret (v := .tuple #[.int .i64 (0), .bool true, .agg #[.int .i64 3, .int .i64 (-1)]]) (by simp [results, Tryz.results22, go_sem, hq.2.1.1, hq.2.2.1]) rfl ⟨0, by rw [HP.out], by rw [HP.out]; exact fun h => absurd h three_ne, by rw [HP.out]; exact ScanAt.res HSZ.out HBL.out _ _, HOZ.out.res HBL.out _ _⟩
                · obtain ⟨o1, o2⟩ := ord_bad2 hDE (.inr g2)
                  have d1 : decide ((N : Int) < 1) = false := decide_eq_false g1; have d1n : decide (N < 1) = false := decide_eq_false (by omega)
                  obtain ⟨DR, hDR⟩ : ∃ x, dayR 1 Y 1 1 = x := ⟨_, rfl⟩; rw [hDR] at b1 b2 C118; rw [hDE] at C118
                  obtain ⟨YL, hYL⟩ : ∃ x, Dm.yearDays 1 Y = x := ⟨_, rfl⟩; rw [hYL] at g2 C119
                  have d2 : decide (YL < (N : Int)) = true := decide_eq_true g2
                  have HP : Hid (dayP s k = ⟨0, true, 3, -1, yrE s k + 1 + 3⟩) := Lib.hid (by simp [dayP, dayA, ordP, hY, HYY.out, F103.out, isK_yes F103.out, F115.out, g116, hN, o1, o2])
                  have CBA : Hid (∀ w0, Calls Tryz.prog 28 #[.int .i64 3] w0 fun e w' => e = .returned (.agg #[.int .i64 3, .int .i64 (-1)]) ∧ Below w0.heap.size w0 w') := Lib.hid fun w0 => badR_any _ w0
                  go_wp2_with (first
                    | (go_at_call 23; (with_reducible refine (C115.out _ S103.out).mono ?_); rintro e w115 ⟨rfl, hS, hO⟩; have S115 := Lib.hid hS; have O115 := Lib.hid (O103.out.trans hO); have L115 := Lib.hid (L103.out.only hO (by have := HBL.out; omega)); obtain ⟨-, ⟨c0, f0⟩, ⟨c1, f1⟩⟩ := L115.out; obtain ⟨-, -, k1, kf⟩ := hS; clear hO)
                    | (go_at_call 51; (with_reducible refine (C116.out _ S115.out).mono ?_); rintro e w116 ⟨rfl, q, rfl⟩; have hsa := S115.out.drewN q; have hoa := O115.out.drewN q; have hla := L115.out.drewN q; (try simp only [World.drewN_drewN] at hsa hoa hla); have S116 := Lib.hid hsa; have O116 := Lib.hid hoa; have L116 := Lib.hid hla; clear hsa hoa hla)
                    | (go_at_call 49; (with_reducible refine (C117.out _ S116.out).mono ?_); rintro e w117 ⟨rfl, hS, hO⟩; have S117 := Lib.hid hS; have O117 := Lib.hid (O116.out.trans hO); have L117 := Lib.hid (L116.out.only hO (by have := HBL.out; omega)); obtain ⟨-, ⟨c0, f0⟩, ⟨c1, f1⟩⟩ := L117.out; clear hS hO)
                    | (go_at_call 52; (with_reducible refine (C118.out _).mono ?_); rintro e w118 ⟨rfl, hb⟩; have S118 := Lib.hid (S117.out.call hb); have O118 := Lib.hid (O117.out.then hb HBW.out); have L118 := Lib.hid (L117.out.call hb); obtain ⟨-, ⟨c0, f0⟩, ⟨c1, f1⟩⟩ := L118.out; clear hb)
                    | (go_at_call 53; (with_reducible refine (C119.out _).mono ?_); rintro e w119 ⟨rfl, hb⟩; have S119 := Lib.hid (S118.out.call hb); have O119 := Lib.hid (O118.out.then hb HBW.out); have L119 := Lib.hid (L118.out.call hb); obtain ⟨-, ⟨c0, f0⟩, ⟨c1, f1⟩⟩ := L119.out; clear hb)
                    | (go_at_call 28; (with_reducible refine (CBA.out _).mono ?_); rintro e wz ⟨rfl, hb⟩; have HSZ := Lib.hid (S119.out.call hb); have HOZ := Lib.hid (O119.out.then hb HBW.out); have HLZ := Lib.hid (L119.out.call hb); obtain ⟨-, ⟨c0, f0⟩, ⟨c1, f1⟩⟩ := HLZ.out; clear hb))
                  have hq := HLZ.out.put (.int .i64 3) (.int .i64 (-1))
                  exact bodyPost_ret (v := .tuple #[.int .i64 (0), .bool true, .agg #[.int .i64 3, .int .i64 (-1)]]) (by simp [results, Tryz.results22, go_sem, hq.2.1.1, hq.2.2.1]) rfl ⟨0, by rw [HP.out], by rw [HP.out]; exact fun h => absurd h three_ne, by rw [HP.out]; exact ScanAt.res HSZ.out HBL.out _ _, HOZ.out.res HBL.out _ _⟩
                · obtain ⟨o1, o2⟩ := ord_good hDE g1 g2
                  have d1 : decide ((N : Int) < 1) = false := decide_eq_false g1; have d1n : decide (N < 1) = false := decide_eq_false (by omega)
                  obtain ⟨DR, hDR⟩ : ∃ x, dayR 1 Y 1 1 = x := ⟨_, rfl⟩; rw [hDR] at b1 b2 C118 o2; rw [hDE] at C118
                  obtain ⟨YL, hYL⟩ : ∃ x, Dm.yearDays 1 Y = x := ⟨_, rfl⟩; rw [hYL] at g2 C119
                  have d2 : decide (YL < (N : Int)) = false := decide_eq_false g2
                  have HP : Hid (dayP s k = ⟨DR + (N : Int) - 1, true, 0, -1, yrE s k + 1 + 3⟩) := Lib.hid (by simp [dayP, dayA, ordP, hY, HYY.out, F103.out, isK_yes F103.out, F115.out, g116, hN, o1, o2])
                  have CFI : Hid (∀ w0, Calls Tryz.prog 29 #[] w0 fun e w' => e = .returned (.agg #[.int .i64 0, .int .i64 (-1)]) ∧ Below w0.heap.size w0 w') := Lib.hid fineR_any
                  go_wp2_with (first
                    | (go_at_call 23; (with_reducible refine (C115.out _ S103.out).mono ?_); rintro e w115 ⟨rfl, hS, hO⟩; have S115 := Lib.hid hS; have O115 := Lib.hid (O103.out.trans hO); have L115 := Lib.hid (L103.out.only hO (by have := HBL.out; omega)); obtain ⟨-, ⟨c0, f0⟩, ⟨c1, f1⟩⟩ := L115.out; obtain ⟨-, -, k1, kf⟩ := hS; clear hO)
                    | (go_at_call 51; (with_reducible refine (C116.out _ S115.out).mono ?_); rintro e w116 ⟨rfl, q, rfl⟩; have hsa := S115.out.drewN q; have hoa := O115.out.drewN q; have hla := L115.out.drewN q; (try simp only [World.drewN_drewN] at hsa hoa hla); have S116 := Lib.hid hsa; have O116 := Lib.hid hoa; have L116 := Lib.hid hla; clear hsa hoa hla)
                    | (go_at_call 49; (with_reducible refine (C117.out _ S116.out).mono ?_); rintro e w117 ⟨rfl, hS, hO⟩; have S117 := Lib.hid hS; have O117 := Lib.hid (O116.out.trans hO); have L117 := Lib.hid (L116.out.only hO (by have := HBL.out; omega)); obtain ⟨-, ⟨c0, f0⟩, ⟨c1, f1⟩⟩ := L117.out; clear hS hO)
                    | (go_at_call 52; (with_reducible refine (C118.out _).mono ?_); rintro e w118 ⟨rfl, hb⟩; have S118 := Lib.hid (S117.out.call hb); have O118 := Lib.hid (O117.out.then hb HBW.out); have L118 := Lib.hid (L117.out.call hb); obtain ⟨-, ⟨c0, f0⟩, ⟨c1, f1⟩⟩ := L118.out; clear hb)
                    | (go_at_call 53; (with_reducible refine (C119.out _).mono ?_); rintro e w119 ⟨rfl, hb⟩; have S119 := Lib.hid (S118.out.call hb); have O119 := Lib.hid (O118.out.then hb HBW.out); have L119 := Lib.hid (L118.out.call hb); obtain ⟨-, ⟨c0, f0⟩, ⟨c1, f1⟩⟩ := L119.out; clear hb)
                    | (go_at_call 29; (with_reducible refine (CFI.out _).mono ?_); rintro e wz ⟨rfl, hb⟩; have HSZ := Lib.hid (S119.out.call hb); have HOZ := Lib.hid (O119.out.then hb HBW.out); have HLZ := Lib.hid (L119.out.call hb); obtain ⟨-, ⟨c0, f0⟩, ⟨c1, f1⟩⟩ := HLZ.out; clear hb))
                  have hq := HLZ.out.put (.int .i64 0) (.int .i64 (-1))
                  exact bodyPost_ret (v := .tuple #[.int .i64 (DR + (N : Int) - 1), .bool true, .agg #[.int .i64 0, .int .i64 (-1)]]) (by simp [results, Tryz.results22, go_sem, hq.2.1.1, hq.2.2.1]) rfl ⟨DR + (N : Int) - 1, by rw [HP.out], by rw [HP.out]; exact fun _ => by first | rfl | (dsimp only; omega), by rw [HP.out]; exact ScanAt.res HSZ.out HBL.out _ _, HOZ.out.res HBL.out _ _⟩
              · obtain ⟨o1, o2, o3⟩ := ord_bad1 (n := (N : Int)) hDE
                obtain ⟨XE, hXE⟩ : ∃ x, dayE 1 Y 1 1 = x := ⟨_, rfl⟩; rw [hXE] at hDE o1 C118; rw [o3] at C118
                have hxb : (XE == 0) = false := by simpa using hDE
                have HP : Hid (dayP s k = ⟨0, true, XE, -1, yrE s k + 1 + 3⟩) := Lib.hid (by simp [dayP, dayA, ordP, hY, HYY.out, F103.out, isK_yes F103.out, F115.out, g116, hN, o1, o2])
                have CBA : Hid (∀ w0, Calls Tryz.prog 28 #[.int .i64 XE] w0 fun e w' => e = .returned (.agg #[.int .i64 XE, .int .i64 (-1)]) ∧ Below w0.heap.size w0 w') := Lib.hid fun w0 => badR_any _ w0
                go_wp2_with (first
                  | (go_at_call 23; (with_reducible refine (C115.out _ S103.out).mono ?_); rintro e w115 ⟨rfl, hS, hO⟩; have S115 := Lib.hid hS; have O115 := Lib.hid (O103.out.trans hO); have L115 := Lib.hid (L103.out.only hO (by have := HBL.out; omega)); obtain ⟨-, ⟨c0, f0⟩, ⟨c1, f1⟩⟩ := L115.out; obtain ⟨-, -, k1, kf⟩ := hS; clear hO)
                  | (go_at_call 51; (with_reducible refine (C116.out _ S115.out).mono ?_); rintro e w116 ⟨rfl, q, rfl⟩; have hsa := S115.out.drewN q; have hoa := O115.out.drewN q; have hla := L115.out.drewN q; (try simp only [World.drewN_drewN] at hsa hoa hla); have S116 := Lib.hid hsa; have O116 := Lib.hid hoa; have L116 := Lib.hid hla; clear hsa hoa hla)
                  | (go_at_call 49; (with_reducible refine (C117.out _ S116.out).mono ?_); rintro e w117 ⟨rfl, hS, hO⟩; have S117 := Lib.hid hS; have O117 := Lib.hid (O116.out.trans hO); have L117 := Lib.hid (L116.out.only hO (by have := HBL.out; omega)); obtain ⟨-, ⟨c0, f0⟩, ⟨c1, f1⟩⟩ := L117.out; clear hS hO)
                  | (go_at_call 52; (with_reducible refine (C118.out _).mono ?_); rintro e w118 ⟨rfl, hb⟩; have S118 := Lib.hid (S117.out.call hb); have O118 := Lib.hid (O117.out.then hb HBW.out); have L118 := Lib.hid (L117.out.call hb); obtain ⟨-, ⟨c0, f0⟩, ⟨c1, f1⟩⟩ := L118.out; clear hb)
                  | (go_at_call 28; (with_reducible refine (CBA.out _).mono ?_); rintro e wz ⟨rfl, hb⟩; have HSZ := Lib.hid (S118.out.call hb); have HOZ := Lib.hid (O118.out.then hb HBW.out); have HLZ := Lib.hid (L118.out.call hb); obtain ⟨-, ⟨c0, f0⟩, ⟨c1, f1⟩⟩ := HLZ.out; clear hb))
                have hq := HLZ.out.put (.int .i64 XE) (.int .i64 (-1))
                exact bodyPost_ret (v := .tuple #[.int .i64 (0), .bool true, .agg #[.int .i64 XE, .int .i64 (-1)]]) (by simp [results, Tryz.results22, go_sem, hq.2.1.1, hq.2.2.1]) rfl ⟨0, by rw [HP.out], by rw [HP.out]; exact fun h => absurd h hDE, by rw [HP.out]; exact ScanAt.res HSZ.out HBL.out _ _, HOZ.out.res HBL.out _ _⟩
            · have g116b : ((run_ s (yrE s k + 1) : Int) == 3) = false := by simp; omega
              obtain ⟨RN, hRN⟩ : ∃ R, run_ s (yrE s k + 1) = R := ⟨_, rfl⟩; rw [hRN] at C116 g116b
              go_wp2_with (first
                | (go_at_call 23; (with_reducible refine (C115.out _ S103.out).mono ?_); rintro e w115 ⟨rfl, hS, hO⟩; have S115 := Lib.hid hS; have O115 := Lib.hid (O103.out.trans hO); have L115 := Lib.hid (L103.out.only hO (by have := HBL.out; omega)); obtain ⟨-, ⟨c0, f0⟩, ⟨c1, f1⟩⟩ := L115.out; obtain ⟨-, -, k1, kf⟩ := hS; clear hO)
                | (go_at_call 51; (with_reducible refine (C116.out _ S115.out).mono ?_); rintro e w116 ⟨rfl, q, rfl⟩; have hsa := S115.out.drewN q; have hoa := O115.out.drewN q; have hla := L115.out.drewN q; (try simp only [World.drewN_drewN] at hsa hoa hla); have S116 := Lib.hid hsa; have O116 := Lib.hid hoa; have L116 := Lib.hid hla; clear hsa hoa hla))
              rcases bool_or (dgB s (yrE s k + 1) 2) with h120 | h120
              · have C120 : Hid (∀ w0, ScanAt b s ((yrE s k + 1 : Nat) : Int) w0 → Calls Tryz.prog 49 #[.pointer (some ⟨b, 0, none⟩), .int .i64 2] w0 fun e w' => e = .returned (.tuple #[.int .i64 ((dgN s (yrE s k + 1) 2 : Nat) : Int), .bool false]) ∧ ScanAt b s ((dgK s (yrE s k + 1) 2 : Nat) : Int) w' ∧ Only b w0 w') := Lib.hid fun w0 h => by
                    have q := take_any b s (yrE s k + 1) 2 2 rfl w0 h (isB_lt F103.out) hs (by omega)
                    rw [h120] at q
                    exact q
                have hx120 := dgN_lt s (yrE s k + 1) 2
                have F120 := Lib.hid h120; clear h120
                have HP : Hid (dayP s k = ⟨0, true, 5, ((dgK s (yrE s k + 1) 2 : Nat) : Int), dgK s (yrE s k + 1) 2⟩) := Lib.hid (by simp [dayP, dayA, mdP, badD, hY, F103.out, isK_yes F103.out, F115.out, g116, F120.out])
                have CFO : Hid (∀ w0, ScanAt b s ((dgK s (yrE s k + 1) 2 : Nat) : Int) w0 → Calls Tryz.prog 26 #[.pointer (some ⟨b, 0, none⟩)] w0 fun e w' => e = .returned (.agg #[.int .i64 5, .int .i64 ((dgK s (yrE s k + 1) 2 : Nat) : Int)]) ∧ Below w0.heap.size w0 w') := Lib.hid fun w0 h => form_any b s (dgK s (yrE s k + 1) 2) w0 h
                go_wp2_with (first
                  | (go_at_call 49; (with_reducible refine (C120.out _ S116.out).mono ?_); rintro e w120 ⟨rfl, hS, hO⟩; have S120 := Lib.hid hS; have O120 := Lib.hid (O116.out.trans hO); have L120 := Lib.hid (L116.out.only hO (by have := HBL.out; omega)); obtain ⟨-, ⟨c0, f0⟩, ⟨c1, f1⟩⟩ := L120.out; obtain ⟨-, -, k1, kf⟩ := hS; clear hO)
                  | (go_at_call 26; (with_reducible refine (CFO.out _ S120.out).mono ?_); rintro e wz ⟨rfl, hb⟩; have HSZ := Lib.hid (S120.out.call hb); have HOZ := Lib.hid (O120.out.then hb HBW.out); have HLZ := Lib.hid (L120.out.call hb); obtain ⟨-, ⟨c0, f0⟩, ⟨c1, f1⟩⟩ := HLZ.out; clear hb))
                have hq := HLZ.out.put (.int .i64 5) (.int .i64 (((dgK s (yrE s k + 1) 2 : Nat) : Int)))
                exact bodyPost_ret (v := .tuple #[.int .i64 (0), .bool true, .agg #[.int .i64 5, .int .i64 (((dgK s (yrE s k + 1) 2 : Nat) : Int))]]) (by simp [results, Tryz.results22, go_sem, hq.2.1.1, hq.2.2.1]) rfl ⟨0, by rw [HP.out], by rw [HP.out]; exact fun h => absurd h five_ne, by rw [HP.out]; exact ScanAt.res HSZ.out HBL.out _ _, HOZ.out.res HBL.out _ _⟩
              · have C120 : Hid (∀ w0, ScanAt b s ((yrE s k + 1 : Nat) : Int) w0 → Calls Tryz.prog 49 #[.pointer (some ⟨b, 0, none⟩), .int .i64 2] w0 fun e w' => e = .returned (.tuple #[.int .i64 ((dgN s (yrE s k + 1) 2 : Nat) : Int), .bool true]) ∧ ScanAt b s ((dgK s (yrE s k + 1) 2 : Nat) : Int) w' ∧ Only b w0 w') := Lib.hid fun w0 h => by
                    have q := take_any b s (yrE s k + 1) 2 2 rfl w0 h (isB_lt F103.out) hs (by omega)
                    rw [h120] at q
                    exact q
                have hx120 := dgN_lt s (yrE s k + 1) 2
                have F120 := Lib.hid h120; clear h120
                go_wp2_with (first
                  | (go_at_call 49; (with_reducible refine (C120.out _ S116.out).mono ?_); rintro e w120 ⟨rfl, hS, hO⟩; have S120 := Lib.hid hS; have O120 := Lib.hid (O116.out.trans hO); have L120 := Lib.hid (L116.out.only hO (by have := HBL.out; omega)); obtain ⟨-, ⟨c0, f0⟩, ⟨c1, f1⟩⟩ := L120.out; obtain ⟨-, -, k1, kf⟩ := hS; clear hO))
                rcases bool_or (isB s (dgK s (yrE s k + 1) 2) 45) with h121 | h121
                · have C121 : Hid (∀ w0, ScanAt b s ((dgK s (yrE s k + 1) 2 : Nat) : Int) w0 → Calls Tryz.prog 23 #[.pointer (some ⟨b, 0, none⟩), .int .u8 45] w0 fun e w' => e = .returned (.bool false) ∧ ScanAt b s ((dgK s (yrE s k + 1) 2 : Nat) : Int) w' ∧ Only b w0 w') := Lib.hid fun w0 h => by
                      have q := ris_any b s (dgK s (yrE s k + 1) 2) 45 w0 h hs
                      rw [h121, isK_no h121] at q
                      exact q
                  have F121 := Lib.hid h121; clear h121
                  have HP : Hid (dayP s k = ⟨0, true, 5, ((dgK s (yrE s k + 1) 2 : Nat) : Int), dgK s (yrE s k + 1) 2⟩) := Lib.hid (by simp [dayP, dayA, mdP, badD, hY, F103.out, isK_yes F103.out, F115.out, g116, F120.out, F121.out])
                  have CFO : Hid (∀ w0, ScanAt b s ((dgK s (yrE s k + 1) 2 : Nat) : Int) w0 → Calls Tryz.prog 26 #[.pointer (some ⟨b, 0, none⟩)] w0 fun e w' => e = .returned (.agg #[.int .i64 5, .int .i64 ((dgK s (yrE s k + 1) 2 : Nat) : Int)]) ∧ Below w0.heap.size w0 w') := Lib.hid fun w0 h => form_any b s (dgK s (yrE s k + 1) 2) w0 h
                  go_wp2_with (first
                    | (go_at_call 23; (with_reducible refine (C121.out _ S120.out).mono ?_); rintro e w121 ⟨rfl, hS, hO⟩; have S121 := Lib.hid hS; have O121 := Lib.hid (O120.out.trans hO); have L121 := Lib.hid (L120.out.only hO (by have := HBL.out; omega)); obtain ⟨-, ⟨c0, f0⟩, ⟨c1, f1⟩⟩ := L121.out; obtain ⟨-, -, k1, kf⟩ := hS; clear hO)
                    | (go_at_call 26; (with_reducible refine (CFO.out _ S121.out).mono ?_); rintro e wz ⟨rfl, hb⟩; have HSZ := Lib.hid (S121.out.call hb); have HOZ := Lib.hid (O121.out.then hb HBW.out); have HLZ := Lib.hid (L121.out.call hb); obtain ⟨-, ⟨c0, f0⟩, ⟨c1, f1⟩⟩ := HLZ.out; clear hb))
                  have hq := HLZ.out.put (.int .i64 5) (.int .i64 (((dgK s (yrE s k + 1) 2 : Nat) : Int)))
                  exact bodyPost_ret (v := .tuple #[.int .i64 (0), .bool true, .agg #[.int .i64 5, .int .i64 (((dgK s (yrE s k + 1) 2 : Nat) : Int))]]) (by simp [results, Tryz.results22, go_sem, hq.2.1.1, hq.2.2.1]) rfl ⟨0, by rw [HP.out], by rw [HP.out]; exact fun h => absurd h five_ne, by rw [HP.out]; exact ScanAt.res HSZ.out HBL.out _ _, HOZ.out.res HBL.out _ _⟩
                · have C121 : Hid (∀ w0, ScanAt b s ((dgK s (yrE s k + 1) 2 : Nat) : Int) w0 → Calls Tryz.prog 23 #[.pointer (some ⟨b, 0, none⟩), .int .u8 45] w0 fun e w' => e = .returned (.bool true) ∧ ScanAt b s ((dgK s (yrE s k + 1) 2 + 1 : Nat) : Int) w' ∧ Only b w0 w') := Lib.hid fun w0 h => by
                      have q := ris_any b s (dgK s (yrE s k + 1) 2) 45 w0 h hs
                      rw [h121, isK_yes h121] at q
                      exact q
                  have F121 := Lib.hid h121; clear h121
                  go_wp2_with (first
                    | (go_at_call 23; (with_reducible refine (C121.out _ S120.out).mono ?_); rintro e w121 ⟨rfl, hS, hO⟩; have S121 := Lib.hid hS; have O121 := Lib.hid (O120.out.trans hO); have L121 := Lib.hid (L120.out.only hO (by have := HBL.out; omega)); obtain ⟨-, ⟨c0, f0⟩, ⟨c1, f1⟩⟩ := L121.out; obtain ⟨-, -, k1, kf⟩ := hS; clear hO))
                  rcases bool_or (dgB s (dgK s (yrE s k + 1) 2 + 1) 2) with h122 | h122
                  · have C122 : Hid (∀ w0, ScanAt b s ((dgK s (yrE s k + 1) 2 + 1 : Nat) : Int) w0 → Calls Tryz.prog 49 #[.pointer (some ⟨b, 0, none⟩), .int .i64 2] w0 fun e w' => e = .returned (.tuple #[.int .i64 ((dgN s (dgK s (yrE s k + 1) 2 + 1) 2 : Nat) : Int), .bool false]) ∧ ScanAt b s ((dgK s (dgK s (yrE s k + 1) 2 + 1) 2 : Nat) : Int) w' ∧ Only b w0 w') := Lib.hid fun w0 h => by
                        have q := take_any b s (dgK s (yrE s k + 1) 2 + 1) 2 2 rfl w0 h (isB_lt F121.out) hs (by omega)
                        rw [h122] at q
                        exact q
                    have hx122 := dgN_lt s (dgK s (yrE s k + 1) 2 + 1) 2
                    have F122 := Lib.hid h122; clear h122
                    have HP : Hid (dayP s k = ⟨0, true, 5, ((dgK s (dgK s (yrE s k + 1) 2 + 1) 2 : Nat) : Int), dgK s (dgK s (yrE s k + 1) 2 + 1) 2⟩) := Lib.hid (by simp [dayP, dayA, mdP, badD, hY, F103.out, isK_yes F103.out, F115.out, g116, F120.out, F121.out, F122.out])
                    have CFO : Hid (∀ w0, ScanAt b s ((dgK s (dgK s (yrE s k + 1) 2 + 1) 2 : Nat) : Int) w0 → Calls Tryz.prog 26 #[.pointer (some ⟨b, 0, none⟩)] w0 fun e w' => e = .returned (.agg #[.int .i64 5, .int .i64 ((dgK s (dgK s (yrE s k + 1) 2 + 1) 2 : Nat) : Int)]) ∧ Below w0.heap.size w0 w') := Lib.hid fun w0 h => form_any b s (dgK s (dgK s (yrE s k + 1) 2 + 1) 2) w0 h
                    go_wp2_with (first
                      | (go_at_call 49; (with_reducible refine (C122.out _ S121.out).mono ?_); rintro e w122 ⟨rfl, hS, hO⟩; have S122 := Lib.hid hS; have O122 := Lib.hid (O121.out.trans hO); have L122 := Lib.hid (L121.out.only hO (by have := HBL.out; omega)); obtain ⟨-, ⟨c0, f0⟩, ⟨c1, f1⟩⟩ := L122.out; obtain ⟨-, -, k1, kf⟩ := hS; clear hO)
                      | (go_at_call 26; (with_reducible refine (CFO.out _ S122.out).mono ?_); rintro e wz ⟨rfl, hb⟩; have HSZ := Lib.hid (S122.out.call hb); have HOZ := Lib.hid (O122.out.then hb HBW.out); have HLZ := Lib.hid (L122.out.call hb); obtain ⟨-, ⟨c0, f0⟩, ⟨c1, f1⟩⟩ := HLZ.out; clear hb))
                    have hq := HLZ.out.put (.int .i64 5) (.int .i64 (((dgK s (dgK s (yrE s k + 1) 2 + 1) 2 : Nat) : Int)))
                    exact bodyPost_ret (v := .tuple #[.int .i64 (0), .bool true, .agg #[.int .i64 5, .int .i64 (((dgK s (dgK s (yrE s k + 1) 2 + 1) 2 : Nat) : Int))]]) (by simp [results, Tryz.results22, go_sem, hq.2.1.1, hq.2.2.1]) rfl ⟨0, by rw [HP.out], by rw [HP.out]; exact fun h => absurd h five_ne, by rw [HP.out]; exact ScanAt.res HSZ.out HBL.out _ _, HOZ.out.res HBL.out _ _⟩
                  · have C122 : Hid (∀ w0, ScanAt b s ((dgK s (yrE s k + 1) 2 + 1 : Nat) : Int) w0 → Calls Tryz.prog 49 #[.pointer (some ⟨b, 0, none⟩), .int .i64 2] w0 fun e w' => e = .returned (.tuple #[.int .i64 ((dgN s (dgK s (yrE s k + 1) 2 + 1) 2 : Nat) : Int), .bool true]) ∧ ScanAt b s ((dgK s (dgK s (yrE s k + 1) 2 + 1) 2 : Nat) : Int) w' ∧ Only b w0 w') := Lib.hid fun w0 h => by
                        have q := take_any b s (dgK s (yrE s k + 1) 2 + 1) 2 2 rfl w0 h (isB_lt F121.out) hs (by omega)
                        rw [h122] at q
                        exact q
                    have hx122 := dgN_lt s (dgK s (yrE s k + 1) 2 + 1) 2
                    have F122 := Lib.hid h122; clear h122
                    have C123 : Hid (∀ w0, Calls Tryz.prog 52 #[.agg #[.int .i64 1, .int .i64 Y, .int .i64 ((dgN s (yrE s k + 1) 2 : Nat) : Int), .int .i64 ((dgN s (dgK s (yrE s k + 1) 2 + 1) 2 : Nat) : Int)]] w0 fun e w' => e = .returned (.tuple #[.int .i64 (dayR 1 Y ((dgN s (yrE s k + 1) 2 : Nat) : Int) ((dgN s (dgK s (yrE s k + 1) 2 + 1) 2 : Nat) : Int)), .int .i64 (dayE 1 Y ((dgN s (yrE s k + 1) 2 : Nat) : Int) ((dgN s (dgK s (yrE s k + 1) 2 + 1) 2 : Nat) : Int))]) ∧ Below w0.heap.size w0 w') := Lib.hid fun w0 => refDay_any 1 Y _ _ w0
                    obtain ⟨XR, hXR⟩ : ∃ x, dayR 1 Y ((dgN s (yrE s k + 1) 2 : Nat) : Int) ((dgN s (dgK s (yrE s k + 1) 2 + 1) 2 : Nat) : Int) = x := ⟨_, rfl⟩; obtain ⟨XE, hXE⟩ : ∃ x, dayE 1 Y ((dgN s (yrE s k + 1) 2 : Nat) : Int) ((dgN s (dgK s (yrE s k + 1) 2 + 1) 2 : Nat) : Int) = x := ⟨_, rfl⟩; rw [hXR, hXE] at C123
                    by_cases hxe : XE = 0
                    · subst hxe
                      have HP : Hid (dayP s k = ⟨XR, true, 0, -1, dgK s (dgK s (yrE s k + 1) 2 + 1) 2⟩) := Lib.hid (by simp [dayP, dayA, mdP, hY, HYY.out, F103.out, isK_yes F103.out, F115.out, g116, F120.out, F121.out, F122.out, hXR, hXE])
                      have CFI : Hid (∀ w0, Calls Tryz.prog 29 #[] w0 fun e w' => e = .returned (.agg #[.int .i64 0, .int .i64 (-1)]) ∧ Below w0.heap.size w0 w') := Lib.hid fineR_any
                      go_wp2_with (first
                        | (go_at_call 49; (with_reducible refine (C122.out _ S121.out).mono ?_); rintro e w122 ⟨rfl, hS, hO⟩; have S122 := Lib.hid hS; have O122 := Lib.hid (O121.out.trans hO); have L122 := Lib.hid (L121.out.only hO (by have := HBL.out; omega)); obtain ⟨-, ⟨c0, f0⟩, ⟨c1, f1⟩⟩ := L122.out; obtain ⟨-, -, k1, kf⟩ := hS; clear hO)
                        | (go_at_call 52; (with_reducible refine (C123.out _).mono ?_); rintro e w123 ⟨rfl, hb⟩; have S123 := Lib.hid (S122.out.call hb); have O123 := Lib.hid (O122.out.then hb HBW.out); have L123 := Lib.hid (L122.out.call hb); obtain ⟨-, ⟨c0, f0⟩, ⟨c1, f1⟩⟩ := L123.out; clear hb)
                        | (go_at_call 29; (with_reducible refine (CFI.out _).mono ?_); rintro e wz ⟨rfl, hb⟩; have HSZ := Lib.hid (S123.out.call hb); have HOZ := Lib.hid (O123.out.then hb HBW.out); have HLZ := Lib.hid (L123.out.call hb); obtain ⟨-, ⟨c0, f0⟩, ⟨c1, f1⟩⟩ := HLZ.out; clear hb))
                      have hq := HLZ.out.put (.int .i64 0) (.int .i64 (-1))
                      exact bodyPost_ret (v := .tuple #[.int .i64 (XR), .bool true, .agg #[.int .i64 0, .int .i64 (-1)]]) (by simp [results, Tryz.results22, go_sem, hq.2.1.1, hq.2.2.1]) rfl ⟨XR, by rw [HP.out], by rw [HP.out]; exact fun _ => by first | rfl | (dsimp only; omega), by rw [HP.out]; exact ScanAt.res HSZ.out HBL.out _ _, HOZ.out.res HBL.out _ _⟩
                    · have hxb : (XE == 0) = false := by simpa using hxe
                      have HP : Hid (dayP s k = ⟨XR, true, XE, -1, dgK s (dgK s (yrE s k + 1) 2 + 1) 2⟩) := Lib.hid (by simp [dayP, dayA, mdP, hY, HYY.out, F103.out, isK_yes F103.out, F115.out, g116, F120.out, F121.out, F122.out, hXR, hXE])
                      have CBA : Hid (∀ w0, Calls Tryz.prog 28 #[.int .i64 XE] w0 fun e w' => e = .returned (.agg #[.int .i64 XE, .int .i64 (-1)]) ∧ Below w0.heap.size w0 w') := Lib.hid fun w0 => badR_any _ w0
                      go_wp2_with (first
                        | (go_at_call 49; (with_reducible refine (C122.out _ S121.out).mono ?_); rintro e w122 ⟨rfl, hS, hO⟩; have S122 := Lib.hid hS; have O122 := Lib.hid (O121.out.trans hO); have L122 := Lib.hid (L121.out.only hO (by have := HBL.out; omega)); obtain ⟨-, ⟨c0, f0⟩, ⟨c1, f1⟩⟩ := L122.out; obtain ⟨-, -, k1, kf⟩ := hS; clear hO)
                        | (go_at_call 52; (with_reducible refine (C123.out _).mono ?_); rintro e w123 ⟨rfl, hb⟩; have S123 := Lib.hid (S122.out.call hb); have O123 := Lib.hid (O122.out.then hb HBW.out); have L123 := Lib.hid (L122.out.call hb); obtain ⟨-, ⟨c0, f0⟩, ⟨c1, f1⟩⟩ := L123.out; clear hb)
                        | (go_at_call 28; (with_reducible refine (CBA.out _).mono ?_); rintro e wz ⟨rfl, hb⟩; have HSZ := Lib.hid (S123.out.call hb); have HOZ := Lib.hid (O123.out.then hb HBW.out); have HLZ := Lib.hid (L123.out.call hb); obtain ⟨-, ⟨c0, f0⟩, ⟨c1, f1⟩⟩ := HLZ.out; clear hb))
                      have hq := HLZ.out.put (.int .i64 XE) (.int .i64 (-1))
                      exact bodyPost_ret (v := .tuple #[.int .i64 (0), .bool true, .agg #[.int .i64 XE, .int .i64 (-1)]]) (by simp [results, Tryz.results22, go_sem, hq.2.1.1, hq.2.2.1]) rfl ⟨0, by rw [HP.out], by rw [HP.out]; exact fun h => absurd h hxe, by rw [HP.out]; exact ScanAt.res HSZ.out HBL.out _ _, HOZ.out.res HBL.out _ _⟩
          · have C115 : Hid (∀ w0, ScanAt b s ((yrE s k + 1 : Nat) : Int) w0 → Calls Tryz.prog 23 #[.pointer (some ⟨b, 0, none⟩), .int .u8 87] w0 fun e w' => e = .returned (.bool true) ∧ ScanAt b s ((yrE s k + 1 + 1 : Nat) : Int) w' ∧ Only b w0 w') := Lib.hid fun w0 h => by
                have q := ris_any b s (yrE s k + 1) 87 w0 h hs
                rw [h115, isK_yes h115] at q
                exact q
            have F115 := Lib.hid h115; clear h115
            go_wp2_with (first
              | (go_at_call 23; (with_reducible refine (C115.out _ S103.out).mono ?_); rintro e w115 ⟨rfl, hS, hO⟩; have S115 := Lib.hid hS; have O115 := Lib.hid (O103.out.trans hO); have L115 := Lib.hid (L103.out.only hO (by have := HBL.out; omega)); obtain ⟨-, ⟨c0, f0⟩, ⟨c1, f1⟩⟩ := L115.out; obtain ⟨-, -, k1, kf⟩ := hS; clear hO))
            rcases bool_or (dgB s (yrE s k + 1 + 1) 2) with h124 | h124
            · have C124 : Hid (∀ w0, ScanAt b s ((yrE s k + 1 + 1 : Nat) : Int) w0 → Calls Tryz.prog 49 #[.pointer (some ⟨b, 0, none⟩), .int .i64 2] w0 fun e w' => e = .returned (.tuple #[.int .i64 ((dgN s (yrE s k + 1 + 1) 2 : Nat) : Int), .bool false]) ∧ ScanAt b s ((dgK s (yrE s k + 1 + 1) 2 : Nat) : Int) w' ∧ Only b w0 w') := Lib.hid fun w0 h => by
                  have q := take_any b s (yrE s k + 1 + 1) 2 2 rfl w0 h (isB_lt F115.out) hs (by omega)
                  rw [h124] at q
                  exact q
              have hx124 := dgN_lt s (yrE s k + 1 + 1) 2
              have F124 := Lib.hid h124; clear h124
              have HP : Hid (dayP s k = ⟨0, true, 5, ((dgK s (yrE s k + 1 + 1) 2 : Nat) : Int), dgK s (yrE s k + 1 + 1) 2⟩) := Lib.hid (by simp [dayP, dayA, wkP, badD, hY, F103.out, isK_yes F103.out, F115.out, F124.out])
              have CFO : Hid (∀ w0, ScanAt b s ((dgK s (yrE s k + 1 + 1) 2 : Nat) : Int) w0 → Calls Tryz.prog 26 #[.pointer (some ⟨b, 0, none⟩)] w0 fun e w' => e = .returned (.agg #[.int .i64 5, .int .i64 ((dgK s (yrE s k + 1 + 1) 2 : Nat) : Int)]) ∧ Below w0.heap.size w0 w') := Lib.hid fun w0 h => form_any b s (dgK s (yrE s k + 1 + 1) 2) w0 h
              go_wp2_with (first
                | (go_at_call 49; (with_reducible refine (C124.out _ S115.out).mono ?_); rintro e w124 ⟨rfl, hS, hO⟩; have S124 := Lib.hid hS; have O124 := Lib.hid (O115.out.trans hO); have L124 := Lib.hid (L115.out.only hO (by have := HBL.out; omega)); obtain ⟨-, ⟨c0, f0⟩, ⟨c1, f1⟩⟩ := L124.out; obtain ⟨-, -, k1, kf⟩ := hS; clear hO)
                | (go_at_call 26; (with_reducible refine (CFO.out _ S124.out).mono ?_); rintro e wz ⟨rfl, hb⟩; have HSZ := Lib.hid (S124.out.call hb); have HOZ := Lib.hid (O124.out.then hb HBW.out); have HLZ := Lib.hid (L124.out.call hb); obtain ⟨-, ⟨c0, f0⟩, ⟨c1, f1⟩⟩ := HLZ.out; clear hb))
              have hq := HLZ.out.put (.int .i64 5) (.int .i64 (((dgK s (yrE s k + 1 + 1) 2 : Nat) : Int)))
              exact bodyPost_ret (v := .tuple #[.int .i64 (0), .bool true, .agg #[.int .i64 5, .int .i64 (((dgK s (yrE s k + 1 + 1) 2 : Nat) : Int))]]) (by simp [results, Tryz.results22, go_sem, hq.2.1.1, hq.2.2.1]) rfl ⟨0, by rw [HP.out], by rw [HP.out]; exact fun h => absurd h five_ne, by rw [HP.out]; exact ScanAt.res HSZ.out HBL.out _ _, HOZ.out.res HBL.out _ _⟩
            · have C124 : Hid (∀ w0, ScanAt b s ((yrE s k + 1 + 1 : Nat) : Int) w0 → Calls Tryz.prog 49 #[.pointer (some ⟨b, 0, none⟩), .int .i64 2] w0 fun e w' => e = .returned (.tuple #[.int .i64 ((dgN s (yrE s k + 1 + 1) 2 : Nat) : Int), .bool true]) ∧ ScanAt b s ((dgK s (yrE s k + 1 + 1) 2 : Nat) : Int) w' ∧ Only b w0 w') := Lib.hid fun w0 h => by
                  have q := take_any b s (yrE s k + 1 + 1) 2 2 rfl w0 h (isB_lt F115.out) hs (by omega)
                  rw [h124] at q
                  exact q
              have hx124 := dgN_lt s (yrE s k + 1 + 1) 2
              have F124 := Lib.hid h124; clear h124
              go_wp2_with (first
                | (go_at_call 49; (with_reducible refine (C124.out _ S115.out).mono ?_); rintro e w124 ⟨rfl, hS, hO⟩; have S124 := Lib.hid hS; have O124 := Lib.hid (O115.out.trans hO); have L124 := Lib.hid (L115.out.only hO (by have := HBL.out; omega)); obtain ⟨-, ⟨c0, f0⟩, ⟨c1, f1⟩⟩ := L124.out; obtain ⟨-, -, k1, kf⟩ := hS; clear hO))
              rcases bool_or (isB s (dgK s (yrE s k + 1 + 1) 2) 45) with h125 | h125
              · have C125 : Hid (∀ w0, ScanAt b s ((dgK s (yrE s k + 1 + 1) 2 : Nat) : Int) w0 → Calls Tryz.prog 23 #[.pointer (some ⟨b, 0, none⟩), .int .u8 45] w0 fun e w' => e = .returned (.bool false) ∧ ScanAt b s ((dgK s (yrE s k + 1 + 1) 2 : Nat) : Int) w' ∧ Only b w0 w') := Lib.hid fun w0 h => by
                    have q := ris_any b s (dgK s (yrE s k + 1 + 1) 2) 45 w0 h hs
                    rw [h125, isK_no h125] at q
                    exact q
                have F125 := Lib.hid h125; clear h125
                have HP : Hid (dayP s k = ⟨0, true, 5, ((dgK s (yrE s k + 1 + 1) 2 : Nat) : Int), dgK s (yrE s k + 1 + 1) 2⟩) := Lib.hid (by simp [dayP, dayA, wkP, badD, hY, F103.out, isK_yes F103.out, F115.out, F124.out, F125.out])
                have CFO : Hid (∀ w0, ScanAt b s ((dgK s (yrE s k + 1 + 1) 2 : Nat) : Int) w0 → Calls Tryz.prog 26 #[.pointer (some ⟨b, 0, none⟩)] w0 fun e w' => e = .returned (.agg #[.int .i64 5, .int .i64 ((dgK s (yrE s k + 1 + 1) 2 : Nat) : Int)]) ∧ Below w0.heap.size w0 w') := Lib.hid fun w0 h => form_any b s (dgK s (yrE s k + 1 + 1) 2) w0 h
                go_wp2_with (first
                  | (go_at_call 23; (with_reducible refine (C125.out _ S124.out).mono ?_); rintro e w125 ⟨rfl, hS, hO⟩; have S125 := Lib.hid hS; have O125 := Lib.hid (O124.out.trans hO); have L125 := Lib.hid (L124.out.only hO (by have := HBL.out; omega)); obtain ⟨-, ⟨c0, f0⟩, ⟨c1, f1⟩⟩ := L125.out; obtain ⟨-, -, k1, kf⟩ := hS; clear hO)
                  | (go_at_call 26; (with_reducible refine (CFO.out _ S125.out).mono ?_); rintro e wz ⟨rfl, hb⟩; have HSZ := Lib.hid (S125.out.call hb); have HOZ := Lib.hid (O125.out.then hb HBW.out); have HLZ := Lib.hid (L125.out.call hb); obtain ⟨-, ⟨c0, f0⟩, ⟨c1, f1⟩⟩ := HLZ.out; clear hb))
                have hq := HLZ.out.put (.int .i64 5) (.int .i64 (((dgK s (yrE s k + 1 + 1) 2 : Nat) : Int)))
                exact bodyPost_ret (v := .tuple #[.int .i64 (0), .bool true, .agg #[.int .i64 5, .int .i64 (((dgK s (yrE s k + 1 + 1) 2 : Nat) : Int))]]) (by simp [results, Tryz.results22, go_sem, hq.2.1.1, hq.2.2.1]) rfl ⟨0, by rw [HP.out], by rw [HP.out]; exact fun h => absurd h five_ne, by rw [HP.out]; exact ScanAt.res HSZ.out HBL.out _ _, HOZ.out.res HBL.out _ _⟩
              · have C125 : Hid (∀ w0, ScanAt b s ((dgK s (yrE s k + 1 + 1) 2 : Nat) : Int) w0 → Calls Tryz.prog 23 #[.pointer (some ⟨b, 0, none⟩), .int .u8 45] w0 fun e w' => e = .returned (.bool true) ∧ ScanAt b s ((dgK s (yrE s k + 1 + 1) 2 + 1 : Nat) : Int) w' ∧ Only b w0 w') := Lib.hid fun w0 h => by
                    have q := ris_any b s (dgK s (yrE s k + 1 + 1) 2) 45 w0 h hs
                    rw [h125, isK_yes h125] at q
                    exact q
                have F125 := Lib.hid h125; clear h125
                go_wp2_with (first
                  | (go_at_call 23; (with_reducible refine (C125.out _ S124.out).mono ?_); rintro e w125 ⟨rfl, hS, hO⟩; have S125 := Lib.hid hS; have O125 := Lib.hid (O124.out.trans hO); have L125 := Lib.hid (L124.out.only hO (by have := HBL.out; omega)); obtain ⟨-, ⟨c0, f0⟩, ⟨c1, f1⟩⟩ := L125.out; obtain ⟨-, -, k1, kf⟩ := hS; clear hO))
                rcases bool_or (dgB s (dgK s (yrE s k + 1 + 1) 2 + 1) 1) with h126 | h126
                · have C126 : Hid (∀ w0, ScanAt b s ((dgK s (yrE s k + 1 + 1) 2 + 1 : Nat) : Int) w0 → Calls Tryz.prog 49 #[.pointer (some ⟨b, 0, none⟩), .int .i64 1] w0 fun e w' => e = .returned (.tuple #[.int .i64 ((dgN s (dgK s (yrE s k + 1 + 1) 2 + 1) 1 : Nat) : Int), .bool false]) ∧ ScanAt b s ((dgK s (dgK s (yrE s k + 1 + 1) 2 + 1) 1 : Nat) : Int) w' ∧ Only b w0 w') := Lib.hid fun w0 h => by
                      have q := take_any b s (dgK s (yrE s k + 1 + 1) 2 + 1) 1 1 rfl w0 h (isB_lt F125.out) hs (by omega)
                      rw [h126] at q
                      exact q
                  have hx126 := dgN_lt s (dgK s (yrE s k + 1 + 1) 2 + 1) 1
                  have F126 := Lib.hid h126; clear h126
                  have HP : Hid (dayP s k = ⟨0, true, 5, ((dgK s (dgK s (yrE s k + 1 + 1) 2 + 1) 1 : Nat) : Int), dgK s (dgK s (yrE s k + 1 + 1) 2 + 1) 1⟩) := Lib.hid (by simp [dayP, dayA, wkP, badD, hY, F103.out, isK_yes F103.out, F115.out, F124.out, F125.out, F126.out])
                  have CFO : Hid (∀ w0, ScanAt b s ((dgK s (dgK s (yrE s k + 1 + 1) 2 + 1) 1 : Nat) : Int) w0 → Calls Tryz.prog 26 #[.pointer (some ⟨b, 0, none⟩)] w0 fun e w' => e = .returned (.agg #[.int .i64 5, .int .i64 ((dgK s (dgK s (yrE s k + 1 + 1) 2 + 1) 1 : Nat) : Int)]) ∧ Below w0.heap.size w0 w') := Lib.hid fun w0 h => form_any b s (dgK s (dgK s (yrE s k + 1 + 1) 2 + 1) 1) w0 h
                  go_wp2_with (first
                    | (go_at_call 49; (with_reducible refine (C126.out _ S125.out).mono ?_); rintro e w126 ⟨rfl, hS, hO⟩; have S126 := Lib.hid hS; have O126 := Lib.hid (O125.out.trans hO); have L126 := Lib.hid (L125.out.only hO (by have := HBL.out; omega)); obtain ⟨-, ⟨c0, f0⟩, ⟨c1, f1⟩⟩ := L126.out; obtain ⟨-, -, k1, kf⟩ := hS; clear hO)
                    | (go_at_call 26; (with_reducible refine (CFO.out _ S126.out).mono ?_); rintro e wz ⟨rfl, hb⟩; have HSZ := Lib.hid (S126.out.call hb); have HOZ := Lib.hid (O126.out.then hb HBW.out); have HLZ := Lib.hid (L126.out.call hb); obtain ⟨-, ⟨c0, f0⟩, ⟨c1, f1⟩⟩ := HLZ.out; clear hb))
                  have hq := HLZ.out.put (.int .i64 5) (.int .i64 (((dgK s (dgK s (yrE s k + 1 + 1) 2 + 1) 1 : Nat) : Int)))
                  exact bodyPost_ret (v := .tuple #[.int .i64 (0), .bool true, .agg #[.int .i64 5, .int .i64 (((dgK s (dgK s (yrE s k + 1 + 1) 2 + 1) 1 : Nat) : Int))]]) (by simp [results, Tryz.results22, go_sem, hq.2.1.1, hq.2.2.1]) rfl ⟨0, by rw [HP.out], by rw [HP.out]; exact fun h => absurd h five_ne, by rw [HP.out]; exact ScanAt.res HSZ.out HBL.out _ _, HOZ.out.res HBL.out _ _⟩
                · have C126 : Hid (∀ w0, ScanAt b s ((dgK s (yrE s k + 1 + 1) 2 + 1 : Nat) : Int) w0 → Calls Tryz.prog 49 #[.pointer (some ⟨b, 0, none⟩), .int .i64 1] w0 fun e w' => e = .returned (.tuple #[.int .i64 ((dgN s (dgK s (yrE s k + 1 + 1) 2 + 1) 1 : Nat) : Int), .bool true]) ∧ ScanAt b s ((dgK s (dgK s (yrE s k + 1 + 1) 2 + 1) 1 : Nat) : Int) w' ∧ Only b w0 w') := Lib.hid fun w0 h => by
                      have q := take_any b s (dgK s (yrE s k + 1 + 1) 2 + 1) 1 1 rfl w0 h (isB_lt F125.out) hs (by omega)
                      rw [h126] at q
                      exact q
                  have hx126 := dgN_lt s (dgK s (yrE s k + 1 + 1) 2 + 1) 1
                  have F126 := Lib.hid h126; clear h126
                  have C127 : Hid (∀ w0, Calls Tryz.prog 50 #[.int .i64 Y, .int .i64 ((dgN s (yrE s k + 1 + 1) 2 : Nat) : Int), .int .i64 ((dgN s (dgK s (yrE s k + 1 + 1) 2 + 1) 1 : Nat) : Int)] w0 fun e w' => e = .returned (.tuple #[.int .i64 (owR Y ((dgN s (yrE s k + 1 + 1) 2 : Nat) : Int) ((dgN s (dgK s (yrE s k + 1 + 1) 2 + 1) 1 : Nat) : Int)), .int .i64 (owE Y ((dgN s (yrE s k + 1 + 1) 2 : Nat) : Int) ((dgN s (dgK s (yrE s k + 1 + 1) 2 + 1) 1 : Nat) : Int))]) ∧ Below w0.heap.size w0 w') := Lib.hid fun w0 => (refOfWeek_all _ _ _ w0).mono fun e w' ⟨r, x, h1, h2, h3⟩ => by obtain ⟨rfl, rfl⟩ := h2.is; exact ⟨h1, h3⟩
                  obtain ⟨XR, hXR⟩ : ∃ x, owR Y ((dgN s (yrE s k + 1 + 1) 2 : Nat) : Int) ((dgN s (dgK s (yrE s k + 1 + 1) 2 + 1) 1 : Nat) : Int) = x := ⟨_, rfl⟩; obtain ⟨XE, hXE⟩ : ∃ x, owE Y ((dgN s (yrE s k + 1 + 1) 2 : Nat) : Int) ((dgN s (dgK s (yrE s k + 1 + 1) 2 + 1) 1 : Nat) : Int) = x := ⟨_, rfl⟩; rw [hXR, hXE] at C127
                  by_cases hxe : XE = 0
                  · subst hxe
                    have HP : Hid (dayP s k = ⟨XR, true, 0, -1, dgK s (dgK s (yrE s k + 1 + 1) 2 + 1) 1⟩) := Lib.hid (by simp [dayP, dayA, wkP, hY, HYY.out, F103.out, isK_yes F103.out, F115.out, F124.out, F125.out, F126.out, hXR, hXE])
                    have CFI : Hid (∀ w0, Calls Tryz.prog 29 #[] w0 fun e w' => e = .returned (.agg #[.int .i64 0, .int .i64 (-1)]) ∧ Below w0.heap.size w0 w') := Lib.hid fineR_any
                    go_wp2_with (first
                      | (go_at_call 49; (with_reducible refine (C126.out _ S125.out).mono ?_); rintro e w126 ⟨rfl, hS, hO⟩; have S126 := Lib.hid hS; have O126 := Lib.hid (O125.out.trans hO); have L126 := Lib.hid (L125.out.only hO (by have := HBL.out; omega)); obtain ⟨-, ⟨c0, f0⟩, ⟨c1, f1⟩⟩ := L126.out; obtain ⟨-, -, k1, kf⟩ := hS; clear hO)
                      | (go_at_call 50; (with_reducible refine (C127.out _).mono ?_); rintro e w127 ⟨rfl, hb⟩; have S127 := Lib.hid (S126.out.call hb); have O127 := Lib.hid (O126.out.then hb HBW.out); have L127 := Lib.hid (L126.out.call hb); obtain ⟨-, ⟨c0, f0⟩, ⟨c1, f1⟩⟩ := L127.out; clear hb)
                      | (go_at_call 29; (with_reducible refine (CFI.out _).mono ?_); rintro e wz ⟨rfl, hb⟩; have HSZ := Lib.hid (S127.out.call hb); have HOZ := Lib.hid (O127.out.then hb HBW.out); have HLZ := Lib.hid (L127.out.call hb); obtain ⟨-, ⟨c0, f0⟩, ⟨c1, f1⟩⟩ := HLZ.out; clear hb))
                    have hq := HLZ.out.put (.int .i64 0) (.int .i64 (-1))
                    exact bodyPost_ret (v := .tuple #[.int .i64 (XR), .bool true, .agg #[.int .i64 0, .int .i64 (-1)]]) (by simp [results, Tryz.results22, go_sem, hq.2.1.1, hq.2.2.1]) rfl ⟨XR, by rw [HP.out], by rw [HP.out]; exact fun _ => by first | rfl | (dsimp only; omega), by rw [HP.out]; exact ScanAt.res HSZ.out HBL.out _ _, HOZ.out.res HBL.out _ _⟩
                  · have hxb : (XE == 0) = false := by simpa using hxe
                    have HP : Hid (dayP s k = ⟨XR, true, XE, -1, dgK s (dgK s (yrE s k + 1 + 1) 2 + 1) 1⟩) := Lib.hid (by simp [dayP, dayA, wkP, hY, HYY.out, F103.out, isK_yes F103.out, F115.out, F124.out, F125.out, F126.out, hXR, hXE])
                    have CBA : Hid (∀ w0, Calls Tryz.prog 28 #[.int .i64 XE] w0 fun e w' => e = .returned (.agg #[.int .i64 XE, .int .i64 (-1)]) ∧ Below w0.heap.size w0 w') := Lib.hid fun w0 => badR_any _ w0
                    go_wp2_with (first
                      | (go_at_call 49; (with_reducible refine (C126.out _ S125.out).mono ?_); rintro e w126 ⟨rfl, hS, hO⟩; have S126 := Lib.hid hS; have O126 := Lib.hid (O125.out.trans hO); have L126 := Lib.hid (L125.out.only hO (by have := HBL.out; omega)); obtain ⟨-, ⟨c0, f0⟩, ⟨c1, f1⟩⟩ := L126.out; obtain ⟨-, -, k1, kf⟩ := hS; clear hO)
                      | (go_at_call 50; (with_reducible refine (C127.out _).mono ?_); rintro e w127 ⟨rfl, hb⟩; have S127 := Lib.hid (S126.out.call hb); have O127 := Lib.hid (O126.out.then hb HBW.out); have L127 := Lib.hid (L126.out.call hb); obtain ⟨-, ⟨c0, f0⟩, ⟨c1, f1⟩⟩ := L127.out; clear hb)
                      | (go_at_call 28; (with_reducible refine (CBA.out _).mono ?_); rintro e wz ⟨rfl, hb⟩; have HSZ := Lib.hid (S127.out.call hb); have HOZ := Lib.hid (O127.out.then hb HBW.out); have HLZ := Lib.hid (L127.out.call hb); obtain ⟨-, ⟨c0, f0⟩, ⟨c1, f1⟩⟩ := HLZ.out; clear hb))
                    have hq := HLZ.out.put (.int .i64 XE) (.int .i64 (-1))
                    exact bodyPost_ret (v := .tuple #[.int .i64 (0), .bool true, .agg #[.int .i64 XE, .int .i64 (-1)]]) (by simp [results, Tryz.results22, go_sem, hq.2.1.1, hq.2.2.1]) rfl ⟨0, by rw [HP.out], by rw [HP.out]; exact fun h => absurd h hxe, by rw [HP.out]; exact ScanAt.res HSZ.out HBL.out _ _, HOZ.out.res HBL.out _ _⟩
end Go.Proofs.YtkfpnlenmdlmjaaGreatDoor
