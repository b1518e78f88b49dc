/- The document's answers on sets of ways; the program's by the plain package. -/
import Derived.Test.YtpmppgmnnnlonaaDoorSpanH
namespace Go.Proofs.YtpmppgmnnnlonaaDoor
open Go.RowKit
theorem Tbl.boxed (w : World) (t : TypeId) : Tbl (w.alloc (.cells tabL.toArray t)) w.heap.size (fun i => Sp.tab (i / 13) (i % 13)) :=
  ⟨by simp, fun i hi => by rw [World.cell?_alloc_at _ _ _ _ (by simp)]; simpa using tabL_at i hi, fun i => by simp⟩
set_option maxRecDepth 100000 in
set_option maxHeartbeats 2000000 in
theorem rjoin_any (p q : Nat) (w : World) (hp : p < 8192) (hq : q < 8192) : Calls Tryd.prog 34 #[.agg tabL.toArray, .int .i64 (p : Int), .int .i64 (q : Int)] w fun e w' => e = .returned (.int .i64 (joinN p q : Int)) ∧ Below w.heap.size w w' := by
  have HT := Lib.hid (Tbl.boxed w 62)
  go_enter Tryd.func34, Tryd.ntmps34
  go_wp2_with fail
  go_loop [7, 8] (fun o c => ∃ s I : Nat, o = .int .i64 (s : Int) ∧ c = .int .i64 (I : Int) ∧ I ≤ 13 ∧ Hid (Bits s (JoinP p q I 0))) (fun _ c => 13 - (intOf c).toNat)
  case atStart => exact ⟨0, 0, rfl, rfl, by omega, Lib.hid (Bits.none JoinP.none)⟩
  case round =>
    obtain ⟨s, I, rfl, rfl, hI, HB⟩ := hrel
    by_cases hlt : I < 13
    · have hFd : decide ((I : Int) < 13) = true := by simp; omega
      go_wp2_with fail
      go_loop [7, 9] (fun o c => ∃ s J : Nat, o = .int .i64 (s : Int) ∧ c = .int .i64 (J : Int) ∧ J ≤ 13 ∧ Hid (Bits s (JoinP p q I J))) (fun _ c => 13 - (intOf c).toNat)
      case atStart => exact ⟨s, 0, rfl, rfl, by omega, HB⟩
      case round =>
        clear HB
        obtain ⟨s, J, rfl, rfl, hJ, HB⟩ := hrel
        by_cases hlt2 : J < 13
        · by_cases hpI : p.testBit I = true
          · by_cases hqJ : q.testBit J = true
            · have hx := HT.out.2.1 (I * 13 + J) (by omega)
              have i1 : (0 : Int) ≤ (I : Int) := by omega
              have i2 : (I : Int) < 13 := by omega
              have i3 : (0 : Int) ≤ (J : Int) := by omega
              have i4 : (J : Int) < 13 := by omega
              simp only [show (I * 13 + J) / 13 = I by omega, show (I * 13 + J) % 13 = J by omega] at hx
              go_wp2_with fail
              refine (in_any p I _ hp hlt).mono ?_; rintro e w' ⟨rfl, rfl⟩
              rw [hpI]
              go_wp2_with fail
              refine (in_any q J _ hq hlt2).mono ?_; rintro e w' ⟨rfl, rfl⟩
              rw [hqJ]
              go_wp2_with fail
              go_round
              case rel => exact ⟨s ||| Sp.tab I J, J + 1, by rw [(set_or s _ HB.out.1 (tab_lt I J hlt hlt2)).1], by go_num, by omega, Lib.hid (join_take HB.out hlt hlt2 hpI hqJ)⟩
              case measure => simp [intOf]; omega
            · rw [Bool.not_eq_true] at hqJ
              go_wp2_with fail
              refine (in_any p I _ hp hlt).mono ?_; rintro e w' ⟨rfl, rfl⟩
              rw [hpI]
              go_wp2_with fail
              refine (in_any q J _ hq hlt2).mono ?_; rintro e w' ⟨rfl, rfl⟩
              rw [hqJ]
              go_wp2_with fail
              go_round
              case rel => exact ⟨s, J + 1, rfl, by go_num, by omega, Lib.hid (join_skip HB.out (by simp [hqJ]))⟩
              case measure => simp [intOf]; omega
          · rw [Bool.not_eq_true] at hpI
            go_wp2_with fail
            refine (in_any p I _ hp hlt).mono ?_; rintro e w' ⟨rfl, rfl⟩
            rw [hpI]
            go_wp2_with fail
            go_round
            case rel => exact ⟨s, J + 1, rfl, by go_num, by omega, Lib.hid (join_skip HB.out (by simp [hpI]))⟩
            case measure => simp [intOf]; omega
        · go_wp2_with fail
          go_round
          case rel => exact ⟨s, I + 1, rfl, by go_num, by omega, by obtain rfl : J = 13 := (by omega); exact Lib.hid (join_row HB.out)⟩
          case measure => simp [intOf]; omega
    · go_wp2_with fail
      go_ret
      obtain rfl : I = 13 := by omega
      exact ⟨ret1 (by rw [join_end HB.out]), (Below.refl _ _).alloc (Nat.le_refl _) _⟩
set_option maxHeartbeats 1000000 in
theorem rback_any (s : Int) (w : World) : Calls Tryd.prog 13 #[.int .i64 s] w (TwoRetT (bkV s) (bkE s) w) := by
  unfold TwoRetT
  by_cases h : 0 ≤ s ∧ s ≤ 8191
  · obtain ⟨n, rfl⟩ := Int.eq_ofNat_of_zero_le h.1
    have hn : n < 8192 := by omega
    rw [show bkV (n : Int) = (backN n : Int) by unfold bkV; rw [if_pos h]; rfl, show bkE (n : Int) = 0 by unfold bkE; rw [if_pos h]]
    obtain ⟨h1, h2⟩ := h
    go_enter Tryd.func13, Tryd.ntmps13
    go_wp2_with fail
    refine (setOK_yes _ _ h1 h2).mono ?_; rintro e w' ⟨rfl, rfl⟩
    clear h1 h2
    go_wp2_with fail
    go_loop [4, 5] (fun o c => ∃ t k : Nat, o = .int .i64 (t : Int) ∧ c = .int .i64 (k : Int) ∧ k ≤ 13 ∧ Hid (Bits t (BackP n k))) (fun _ c => 13 - (intOf c).toNat)
    case atStart => exact ⟨0, 0, rfl, rfl, by omega, Lib.hid (Bits.none BackP.none)⟩
    case round =>
      obtain ⟨t, k, rfl, rfl, hk, HB⟩ := hrel
      by_cases hlt : k < 13
      · have hFd : decide ((k : Int) < 13) = true := by simp; omega
        cases hb : n.testBit k
        · go_wp2_with fail
          refine (in_any n k _ hn hlt).mono ?_; rintro e w' ⟨rfl, rfl⟩
          rw [hb]
          have HS := Lib.hid hb; clear hb
          go_wp2_with fail
          go_round
          case rel => exact ⟨t, k + 1, rfl, by go_num, by omega, Lib.hid (back_skip HB.out HS.out)⟩
          case measure => simp [intOf]; omega
        · go_wp2_with fail
          refine (in_any n k _ hn hlt).mono ?_; rintro e w' ⟨rfl, rfl⟩
          rw [hb]
          have HS := Lib.hid hb; clear hb
          have e1 : (0 : Int) ≤ 12 - (k : Int) := by omega
          have e2 : 12 - (k : Int) ≤ 12 := by omega
          have e3 : (12 - (k : Int)).toNat = 12 - k := by omega
          have e4 : IntKind.u64.wrap (12 - (k : Int)) = 12 - (k : Int) := wraps_u64 _ e1 (by omega)
          go_wp2_with fail
          go_round
          case rel => exact ⟨t ||| 2 ^ (12 - k), k + 1, by first | rw [pow_cast t k HB.out.1 hlt] | rw [e3, pow_cast t k HB.out.1 hlt] | (simp only [e4, e3]; rw [pow_cast t k HB.out.1 hlt]), by go_num, by omega, Lib.hid (back_take HB.out hlt HS.out)⟩
          case measure => simp [intOf]; omega
      · go_wp2_with fail
        go_ret2
        obtain rfl : k = 13 := by omega
        exact ⟨ret2 (by rw [back_end HB.out]) rfl, Below.refl _ _⟩
  · rw [show bkV s = 0 by unfold bkV; rw [if_neg h], show bkE s = 1 by unfold bkE; rw [if_neg h]]
    have h' : s < 0 ∨ 8191 < s := by omega
    clear h
    go_enter Tryd.func13, Tryd.ntmps13
    go_wp2_with fail
    refine (setOK_no _ _ h').mono ?_; rintro e w' ⟨rfl, rfl⟩
    clear h'
    go_wp2_with fail
    go_ret2
    exact ⟨rfl, Below.refl _ _⟩
set_option maxHeartbeats 1000000 in
theorem joinSets_any (p q : Int) (w : World) : Calls Tryd.prog 14 #[.int .i64 p, .int .i64 q] w (TwoRetT (jnV p q) (jnE p q) w) := by
  unfold TwoRetT
  by_cases h : (0 ≤ p ∧ p ≤ 8191) ∧ (0 ≤ q ∧ q ≤ 8191)
  · obtain ⟨n, rfl⟩ := Int.eq_ofNat_of_zero_le h.1.1
    obtain ⟨m, rfl⟩ := Int.eq_ofNat_of_zero_le h.2.1
    have hn : n < 8192 := by omega
    have hm : m < 8192 := by omega
    rw [show jnV (n : Int) (m : Int) = (joinN n m : Int) by unfold jnV; rw [if_pos h]; rfl, show jnE (n : Int) (m : Int) = 0 by unfold jnE; rw [if_pos h]]
    obtain ⟨⟨h1, h2⟩, h3, h4⟩ := h
    go_enter Tryd.func14, Tryd.ntmps14
    go_wp2_with fail
    refine (setOK_yes _ _ h1 h2).mono ?_; rintro e w' ⟨rfl, rfl⟩
    go_wp2_with fail
    refine (setOK_yes _ _ h3 h4).mono ?_; rintro e w' ⟨rfl, rfl⟩
    clear h1 h2 h3 h4
    go_wp2_with fail
    refine (Table_any _).mono ?_; rintro e w1 ⟨rfl, hb1⟩
    have HB := Lib.hid hb1; clear hb1
    go_wp2_with fail
    refine (rjoin_any n m _ hn hm).mono ?_; rintro e w2 ⟨rfl, hb2⟩
    have HB2 := Lib.hid (thenB HB.out hb2); clear hb2
    go_wp2_with fail
    go_ret2
    exact ⟨rfl, HB2.out⟩
  · rw [show jnV p q = 0 by unfold jnV; rw [if_neg h], show jnE p q = 1 by unfold jnE; rw [if_neg h]]
    by_cases h1 : 0 ≤ p ∧ p ≤ 8191
    · have h' : q < 0 ∨ 8191 < q := by omega
      obtain ⟨h1, h2⟩ := h1
      clear h
      go_enter Tryd.func14, Tryd.ntmps14
      go_wp2_with fail
      refine (setOK_yes _ _ h1 h2).mono ?_; rintro e w' ⟨rfl, rfl⟩
      go_wp2_with fail
      refine (setOK_no _ _ h').mono ?_; rintro e w' ⟨rfl, rfl⟩
      clear h' h1 h2
      go_wp2_with fail
      go_ret2
      exact ⟨rfl, Below.refl _ _⟩
    · have h' : p < 0 ∨ 8191 < p := by omega
      clear h h1
      go_enter Tryd.func14, Tryd.ntmps14
      go_wp2_with fail
      refine (setOK_no _ _ h').mono ?_; rintro e w' ⟨rfl, rfl⟩
      clear h'
      go_wp2_with fail
      go_ret2
      exact ⟨rfl, Below.refl _ _⟩
set_option maxHeartbeats 400000 in
theorem in_int (s : Int) (k : Nat) (w : World) (hk : k < 13) : Calls Tryd.prog 33 #[.int .i64 s, .int .i64 (k : Int)] w fun e w' => e = .returned (.bool ((s % 8192).toNat.testBit k)) ∧ w' = w := by
  have hb := Lib.hid (has_int s k hk)
  go_enter Tryd.func33, Tryd.ntmps33
  go_wp2
  go_ret
  exact ⟨retB hb.out, rfl⟩
theorem cnt_le (n t : Nat) : cntN n t ≤ n := by
  induction n with
  | zero => exact Nat.le_refl _
  | succ n ih => unfold cntN; split <;> omega
set_option maxHeartbeats 1000000 in
theorem rcount_any (s : Int) (w : World) : Calls Tryd.prog 16 #[.int .i64 s] w fun e w' => e = .returned (.int .i64 (cntN 13 (s % 8192).toNat : Int)) ∧ w' = w := by
  obtain ⟨t, ht⟩ : ∃ t, (s % 8192).toNat = t := ⟨_, rfl⟩
  rw [ht]
  have HT := Lib.hid ht; clear ht
  go_enter Tryd.func16, Tryd.ntmps16
  go_wp2_with fail
  go_loop [3, 4] (fun o c => ∃ k m : Nat, o = .int .i64 (m : Int) ∧ c = .int .i64 (k : Int) ∧ k ≤ 13 ∧ m ≤ k ∧ Hid (m = cntN k t)) (fun _ c => 13 - (intOf c).toNat)
  case atStart => exact ⟨0, 0, rfl, rfl, by omega, by omega, Lib.hid rfl⟩
  case round =>
    obtain ⟨k, m, rfl, rfl, hk, hm, HM⟩ := hrel
    by_cases hlt : k < 13
    · have hFd : decide ((k : Int) < 13) = true := by simp; omega
      cases hb : t.testBit k
      · go_wp2_with fail
        refine (in_int s k _ hlt).mono ?_; rintro e w' ⟨rfl, rfl⟩
        rw [HT.out, hb]
        have HS := Lib.hid hb; clear hb
        go_wp2_with fail
        go_round
        case rel => exact ⟨k + 1, m, rfl, by go_num, by omega, by omega, Lib.hid (by unfold cntN; rw [HS.out, HM.out]; rfl)⟩
        case measure => simp [intOf]; omega
      · go_wp2_with fail
        refine (in_int s k _ hlt).mono ?_; rintro e w' ⟨rfl, rfl⟩
        rw [HT.out, hb]
        have HS := Lib.hid hb; clear hb
        go_wp2_with fail
        go_round
        case rel => exact ⟨k + 1, m + 1, by go_num, by go_num, by omega, by omega, Lib.hid (by unfold cntN; rw [HS.out, HM.out]; rfl)⟩
        case measure => simp [intOf]; omega
    · go_wp2_with fail
      go_ret
      obtain rfl : k = 13 := by omega
      exact ⟨ret1 (by rw [HM.out]), rfl⟩
set_option maxRecDepth 100000 in
set_option maxHeartbeats 1000000 in
theorem ones_any (t : Nat) (w : World) (ht : t < 8192) : Calls Tryd.prog 49 #[.int .u64 (t : Int)] w fun e w' => e = .returned (.int .i64 (cntN 13 t : Int)) ∧ w' = w := by
  go_enter Tryd.func49, Tryd.ntmps49
  go_wp2_with fail
  refine (ones64_any _ _ ht).mono ?_; rintro e w' ⟨rfl, rfl⟩
  go_wp2_with fail
  go_ret
  exact ⟨rfl, rfl⟩
set_option maxHeartbeats 1000000 in
theorem pcount_any (s : Int) (w : World) : Calls Tryd.prog 36 #[.int .i64 s] w fun e w' => e = .returned (.int .i64 (cntN 13 (s % 8192).toNat : Int)) ∧ w' = w := by
  obtain ⟨t, ht⟩ : ∃ t : Nat, s % 8192 = (t : Int) := ⟨(s % 8192).toNat, by omega⟩
  have ht2 : t < 8192 := by omega
  have hm : bits .and .i64 s 8191 = (t : Int) := by rw [mask13, ht]
  have hw : IntKind.u64.wrap (t : Int) = t := wraps_u64 _ (by omega) (by omega)
  rw [ht, Int.toNat_natCast]
  clear ht
  go_enter Tryd.func36, Tryd.ntmps36
  go_wp2_with fail
  refine (ones_any t _ ht2).mono ?_; rintro e w' ⟨rfl, rfl⟩
  go_wp2_with fail
  go_ret
  exact ⟨rfl, rfl⟩
theorem plainCount_any (s : Int) (w : World) : Calls Tryd.prog 15 #[.int .i64 s] w fun e w' => e = .returned (.int .i64 (cntN 13 (s % 8192).toNat : Int)) ∧ w' = w := by
  obtain ⟨m, hm⟩ : ∃ m, cntN 13 (s % 8192).toNat = m := ⟨_, rfl⟩
  rw [hm]
  have HM := Lib.hid hm; clear hm
  go_enter Tryd.func15, Tryd.ntmps15
  go_wp2_with fail
  refine (pcount_any s _).mono ?_; rintro e w' ⟨rfl, rfl⟩
  rw [HM.out]
  go_wp2_with fail
  go_ret
  exact ⟨rfl, rfl⟩
set_option maxHeartbeats 1000000 in
theorem plainBack_any (s : Int) (w : World) (hT : ErrT w) : Calls Tryd.prog 12 #[.int .i64 s] w (TwoRetT (bkV s) (bkE s) w) := by
  have HT := Lib.hid hT; clear hT
  go_enter Tryd.func12, Tryd.ntmps12
  go_wp2_with fail
  refine (pback_any _ _).mono ?_; rintro e w1 ⟨rfl, hb1⟩
  have HT1 := Lib.hid (HT.out.call hb1)
  have HB1 := Lib.hid hb1; clear hb1
  go_wp2_with fail
  refine (tell_any _ _ HT1.out).mono ?_; rintro e w2 ⟨rfl, hb2⟩
  have HB2 := Lib.hid (thenB HB1.out hb2); clear hb2
  go_wp2_with fail
  go_ret2
  exact ⟨rfl, HB2.out⟩
set_option maxHeartbeats 1000000 in
theorem plainJoin_any (p q : Int) (w : World) (hT : ErrT w) : Calls Tryd.prog 9 #[.int .i64 p, .int .i64 q] w (TwoRetT (jnV p q) (jnE p q) w) := by
  have HT := Lib.hid hT; clear hT
  go_enter Tryd.func9, Tryd.ntmps9
  go_wp2_with fail
  refine (pjoin_any _ _ _).mono ?_; rintro e w1 ⟨rfl, hb1⟩
  have HT1 := Lib.hid (HT.out.call hb1)
  have HB1 := Lib.hid hb1; clear hb1
  go_wp2_with fail
  refine (tell_any _ _ HT1.out).mono ?_; rintro e w2 ⟨rfl, hb2⟩
  have HB2 := Lib.hid (thenB HB1.out hb2); clear hb2
  go_wp2_with fail
  go_ret2
  exact ⟨rfl, HB2.out⟩
end Go.Proofs.YtpmppgmnnnlonaaDoor
