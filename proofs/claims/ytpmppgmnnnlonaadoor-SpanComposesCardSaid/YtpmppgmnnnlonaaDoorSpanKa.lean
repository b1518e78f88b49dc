/- The law SpanComposes: one of its ways. -/
import Derived.Test.YtpmppgmnnnlonaaDoorSpanK
namespace Go.Proofs.YtpmppgmnnnlonaaDoor
open Go.RowKit
set_option maxRecDepth 100000 in
set_option maxHeartbeats 8000000 in
theorem composes_bad1 (a b c d e0 f0 p q : Int) (w : World) (hT : ErrT w) (h : b ≤ a ∨ d ≤ c) : Calls Tryd.prog 3 #[.agg #[.int .i64 a, .int .i64 b], .agg #[.int .i64 c, .int .i64 d], .agg #[.int .i64 e0, .int .i64 f0], .int .i64 p, .int .i64 q] w fun e w' => e = .returned (.bool true) ∧ Below w.heap.size w w' := by
  obtain ⟨E1, E2⟩ := of_bad h
  have HE := Lib.hid (And.intro E1 E2)
  clear E1 E2 h
  have HT := Lib.hid hT; clear hT
  have HA := Lib.hid (((Two.new w a b 23).alloc (.cells #[.int .i64 c, .int .i64 d] 23)).alloc (.cells #[.int .i64 e0, .int .i64 f0] 23))
  have hB := (Two.new (w.alloc (.cells #[.int .i64 a, .int .i64 b] 23)) c d 23).alloc (.cells #[.int .i64 e0, .int .i64 f0] 23)
  have hC := Two.new ((w.alloc (.cells #[.int .i64 a, .int .i64 b] 23)).alloc (.cells #[.int .i64 c, .int .i64 d] 23)) e0 f0 23
  simp only [World.size_alloc] at hB hC
  have HB := Lib.hid hB
  have HC := Lib.hid hC
  clear hB hC
  go_enter Tryd.func3, Tryd.ntmps3
  go_wp2_with fail
  refine (plainOf_any _ _ _ _ _ (((HT.out.alloc _).alloc _).alloc _)).mono ?_; rintro e w1 ⟨rfl, hb1⟩
  have hA1 := HA.out.call hb1
  have hB1 := HB.out.call hb1
  have hC1 := HC.out.call hb1
  have HT1 := Lib.hid ((((HT.out.alloc _).alloc _).alloc _).call hb1)
  have HW1 := Lib.hid (offA (offA (offA hb1)))
  have HA1 := Lib.hid hA1
  have HB1 := Lib.hid hB1
  have HC1 := Lib.hid hC1
  clear hb1 HA HB HC HT
  obtain ⟨a0, a1, a2⟩ := hA1
  obtain ⟨b0, b1, b2⟩ := hB1
  obtain ⟨c0, c1, c2⟩ := hC1
  rw [HE.out.1, HE.out.2]
  go_wp2_with fail
  refine (plainOf_any _ _ _ _ _ HT1.out).mono ?_; rintro e w2 ⟨rfl, hb2⟩
  clear a0 a1 a2 b0 b1 b2 c0 c1 c2
  have hA1 := HA1.out.call hb2
  have hB1 := HB1.out.call hb2
  have hC1 := HC1.out.call hb2
  have HT2 := Lib.hid (HT1.out.call hb2)
  have HW2 := Lib.hid (thenB HW1.out hb2)
  have HA2 := Lib.hid hA1
  have HB2 := Lib.hid hB1
  clear hb2 HA1 HB1 HC1 HT1 HW1
  obtain ⟨a0, a1, a2⟩ := hA1
  obtain ⟨b0, b1, b2⟩ := hB1
  obtain ⟨c0, c1, c2⟩ := hC1
  go_wp2_with fail
  refine (plainOf_any _ _ _ _ _ HT2.out).mono ?_; rintro e w3 ⟨rfl, hb3⟩
  clear a0 a1 a2 b0 b1 b2 c0 c1 c2
  have hA1 := HA2.out.call hb3
  have hB1 := HB2.out.call hb3
  have HT3 := Lib.hid (HT2.out.call hb3)
  have HW3 := Lib.hid (thenB HW2.out hb3)
  have HA3 := Lib.hid hA1
  have HB3 := Lib.hid hB1
  clear hb3 HA2 HB2 HT2 HW2 hA1 hB1

  have HT := HT3
  have HW := HW3
  clear HT3 HW3 HA3 HB3
  go_wp2_with fail
  refine (pick13 p _).mono ?_; rintro e w' ⟨rfl, rfl⟩
  go_wp2_with fail
  refine (pick13 q _).mono ?_; rintro e w' ⟨rfl, rfl⟩
  obtain ⟨P, hP, hP13⟩ : ∃ P : Nat, p % 13 = (P : Int) ∧ P < 13 := ⟨(p % 13).toNat, by omega, by omega⟩
  obtain ⟨Q, hQ, hQ13⟩ : ∃ Q : Nat, q % 13 = (Q : Int) ∧ Q < 13 := ⟨(q % 13).toNat, by omega, by omega⟩
  rw [hP, hQ]
  clear hP hQ
  go_wp2_with fail
  refine wp_region_below (by kernel_rfl) (by kernel_rfl) ?_
  repeat (go_big_quiet_step ((go_at_call 9; exact Calls.regrown_of (plainJoin_Q _ _ P Q _ hP13 hQ13 (wrap_pow hP13) (wrap_pow hQ13) (HT.out.call (below_regrown _ _ _))))))
  refine wpQuiet_nil ?_
  intro w1 hb1
  have HT1 := Lib.hid (HT.out.call hb1)
  have HW1 := Lib.hid (thenB HW.out hb1)
  clear hb1 HT HW
  obtain ⟨i0, hi0, hz0, hz1, hz2⟩ := info_parts span_info
  have HTAB := Lib.hid (rfl : Sp.tab P Q = Sp.tab P Q)
  go_wp2_with fail
  go_loopw [22, 23] (fun v c wr => ∃ a : Nat, c = .int .i64 (a : Int) ∧ a ≤ 6 ∧ Hid (wr.ownsRow w1.heap.size 23 2 v (posL a (a + 1)) (rowV (posL a (a + 1)))) ∧ Hid (Below w1.heap.size w1 wr)) (fun _ c _ => 6 - (intOf c).toNat)
  case atStart => exact ⟨0, rfl, by omega, Lib.hid (World.ownsRow_nil _ _ _ _), Lib.hid (Below.refl _ _)⟩
  case round =>
    obtain ⟨a, rfl, ha, HOWN, HB⟩ := hrel
    by_cases hlt : a < 6
    · have hFd : decide ((a : Int) < 6) = true := by simp; omega
      go_wp2_with fail
      go_loopw [22, 24] (fun v c wi => ∃ b : Nat, c = .int .i64 (b : Int) ∧ a < b ∧ b ≤ 6 ∧ Hid (wi.ownsRow w1.heap.size 23 2 v (posL a b) (rowV (posL a b))) ∧ Hid (Below w1.heap.size w1 wi)) (fun _ c _ => 6 - (intOf c).toNat)
      case atStart => exact ⟨a + 1, by go_num, by omega, by omega, HOWN, HB⟩
      case round =>
        clear HOWN HB
        obtain ⟨b, rfl, hab, hb6, HOWN, HB⟩ := hrel
        by_cases hlt2 : b < 6
        · have hbz := HB.out.size
          have hpos := (pos_in a b hab hlt2).1
          go_wp2_with (at_builtin; refine wpList_append_own _ rfl _ _ 31 rfl w1.heap.size 23 i0 (.agg #[.int .i64 0, .int .i64 0]) 2 16 Tryd.underlying31 hi0 hz0 hz1 hz2 rfl (by decide) _ _ _ rfl (HOWN.out.alloc _) ⟨wr.heap.size, 0, none⟩ 1 1 [.int .i64 (a : Int), .int .i64 (b : Int)] rfl rfl (cells_here wr _ _) (by simp [Value.oneCell']) (by unfold maxLen; omega) (by omega) (by simp; omega) ?_; intro v' w2 hown1 hgrow _)
          have hg2 : (wr.alloc (.cells #[.int .i64 (a : Int), .int .i64 (b : Int)] 23)).grownBy w2 u22.ownBlock := hgrow
          have hB2 := (HB.out.alloc (by omega) (.cells #[.int .i64 (a : Int), .int .i64 (b : Int)] 23)).grown hg2 (by simp; omega) (fun k hk => (HOWN.out.lt k hk).1)
          have ho := hown1
          rw [row_step a b hab hlt2, ← (pos_in a b hab hlt2).2.2] at ho
          exact ⟨⟨b + 1, by go_num, by omega, by omega, Lib.hid ho, Lib.hid hB2⟩, by simp [intOf]; omega⟩
        · obtain rfl : b = 6 := by omega
          have hpr := pos_row a hlt
          rw [hpr] at HOWN
          clear hpr
          go_wp2_with fail
          go_roundw
          case rel => exact ⟨a + 1, by go_num, by omega, HOWN, HB⟩
          case measure => simp [intOf]; omega
    · obtain rfl : a = 6 := by omega
      simp only [show ((6 : Nat) : Int) = 6 from rfl]
      obtain ⟨g, cap, rfl, hg, hP⟩ := Pairs.own (HOWN.out : wr.ownsRow _ _ 2 _ 15 (rowV 15))
      have h0 : CRel w g wr := ⟨hP, HT1.out.call HB.out, thenB HW1.out HB.out⟩
      have H0 := Lib.hid h0
      clear h0 HOWN HB hP hg HT1 HW1
      obtain ⟨wo, rfl⟩ : ∃ wo : World, wo = wr := ⟨_, rfl⟩
      go_wp2_with fail
      go_loopw [25, 129] (fun o c wr => ∃ s I : Nat, o = .int .i64 (s : Int) ∧ c = .int .i64 (I : Int) ∧ I ≤ 15 ∧ Hid (Bits s (TabP I 0 0 P Q)) ∧ Hid (CRel w g wr)) (fun _ c _ => 15 - (intOf c).toNat)
      case atStart => exact ⟨0, 0, rfl, rfl, by omega, Lib.hid (Bits.none (by rintro v _ ⟨i, j, k, _, _, _, h, _⟩; omega)), H0⟩
      case round =>
        clear H0
        obtain ⟨s, I, rfl, rfl, hI, HS, HR⟩ := hrel
        obtain ⟨wA, rfl⟩ : ∃ wo : World, wo = wr := ⟨_, rfl⟩
        by_cases hI2 : I < 15
        · have hFd : decide ((I : Int) < 15) = true := by simp; omega
          have hA0 := (HR.out.1.2 I hI2).1
          have hA1 := (HR.out.1.2 I hI2).2
          have hgs := HR.out.1.1
          go_wp2_with fail
          have HR1 := Lib.hid (HR.out.alloc (.cells #[.int .i64 (lo I : Int), .int .i64 (hi I : Int)] 23))
          have HA1 := Lib.hid (Two.new wA (lo I : Int) (hi I : Int) 23)
          clear hA0 hA1
          go_loopw [25, 135] (fun o c wr => ∃ s J : Nat, o = .int .i64 (s : Int) ∧ c = .int .i64 (J : Int) ∧ J ≤ 15 ∧ Hid (Bits s (TabP I J 0 P Q)) ∧ Hid (CRel w g wr) ∧ Hid (Two wr wA.heap.size (lo I) (hi I))) (fun _ c _ => 15 - (intOf c).toNat)
          case atStart => exact ⟨s, 0, rfl, rfl, by omega, HS, HR1, HA1⟩
          case round =>
            clear HR1 HA1 HS
            obtain ⟨s, J, rfl, rfl, hJ, HS, HR1, HA1⟩ := hrel
            obtain ⟨wB, rfl⟩ : ∃ wo : World, wo = wr := ⟨_, rfl⟩
            by_cases hJ2 : J < 15
            · have hFd2 : decide ((J : Int) < 15) = true := by simp; omega
              have hA0 := (HR1.out.1.2 J hJ2).1
              have hA1 := (HR1.out.1.2 J hJ2).2
              have hgs1 := HR1.out.1.1
              have hAB := HA1.out.1
              obtain ⟨_, x1, x2⟩ := HA1.out
              go_wp2_with fail
              clear x1 x2
              have HR2 := Lib.hid (HR1.out.alloc (.cells #[.int .i64 (lo J : Int), .int .i64 (hi J : Int)] 23))
              have HA2 := Lib.hid (HA1.out.alloc (.cells #[.int .i64 (lo J : Int), .int .i64 (hi J : Int)] 23))
              have HB2 := Lib.hid (Two.new wB (lo J : Int) (hi J : Int) 23)
              clear hA0 hA1
              refine (plainOf_L I J _ HR2.out.2.1).mono ?_; rintro e w4 ⟨rfl, hb4⟩
              have HR3 := Lib.hid (HR2.out.call hb4)
              have HA3 := Lib.hid (HA2.out.call hb4)
              have HB3 := Lib.hid (HB2.out.call hb4)
              have hz4 := hb4.size
              simp only [World.size_alloc] at hz4
              clear hb4 HR2 HA2 HB2
              by_cases hxp : wayL I J = P
              · have hxb : ((wayL I J : Int) == (P : Int)) = true := by simp [hxp]
                have hxc : ((wayL I J : Int) != (P : Int)) = false := by simp [hxp]
                have HXP := Lib.hid hxp
                clear hxp
                go_wp2_with fail
                go_loopw [25, 150] (fun o c wr => ∃ s K : Nat, o = .int .i64 (s : Int) ∧ c = .int .i64 (K : Int) ∧ K ≤ 15 ∧ Hid (Bits s (TabP I J K P Q)) ∧ Hid (CRel w g wr) ∧ Hid (Two wr wA.heap.size (lo I) (hi I)) ∧ Hid (Two wr wB.heap.size (lo J) (hi J))) (fun _ c _ => 15 - (intOf c).toNat)
                case atStart => exact ⟨s, 0, rfl, rfl, by omega, HS, HR3, HA3, HB3⟩
                case round =>
                  clear HR3 HA3 HB3 HS
                  obtain ⟨s, K, rfl, rfl, hK, HS, HR2, HA2, HB2⟩ := hrel
                  obtain ⟨wC, rfl⟩ : ∃ wo : World, wo = wr := ⟨_, rfl⟩
                  by_cases hK2 : K < 15
                  · have hA0 := (HR2.out.1.2 K hK2).1
                    have hA1 := (HR2.out.1.2 K hK2).2
                    have hgs2 := HR2.out.1.1
                    obtain ⟨x0, x1, x2⟩ := HA2.out
                    obtain ⟨y0, y1, y2⟩ := HB2.out
                    go_wp2_with fail
                    clear x1 x2 y1 y2 hA0 hA1
                    have HR4 := Lib.hid (HR2.out.alloc (.cells #[.int .i64 (lo K : Int), .int .i64 (hi K : Int)] 23))
                    have HA4 := Lib.hid (HA2.out.alloc (.cells #[.int .i64 (lo K : Int), .int .i64 (hi K : Int)] 23))
                    have HB4 := Lib.hid (HB2.out.alloc (.cells #[.int .i64 (lo K : Int), .int .i64 (hi K : Int)] 23))
                    have HC4 := Lib.hid (Two.new wC (lo K : Int) (hi K : Int) 23)
                    refine (plainOf_L J K _ HR4.out.2.1).mono ?_; rintro e w5 ⟨rfl, hb5⟩
                    have HR5 := Lib.hid (HR4.out.call hb5)
                    have HA5 := Lib.hid (HA4.out.call hb5)
                    have HB5 := Lib.hid (HB4.out.call hb5)
                    have HC5 := Lib.hid (HC4.out.call hb5)
                    have hz5 := hb5.size
                    simp only [World.size_alloc] at hz5
                    clear hb5 HR4 HA4 HB4 HC4
                    by_cases hyq : wayL J K = Q
                    · have hyb : ((wayL J K : Int) == (Q : Int)) = true := by simp [hyq]
                      have HYQ := Lib.hid hyq
                      clear hyq
                      have z0 := wayL_lt I K
                      obtain ⟨x0, x1, x2⟩ := HA5.out
                      obtain ⟨y0, y1, y2⟩ := HC5.out
                      go_wp2_with fail
                      clear x1 x2 y1 y2
                      refine (plainOf_L I K _ HR5.out.2.1).mono ?_; rintro e w6 ⟨rfl, hb6⟩
                      have HR6 := Lib.hid (HR5.out.call hb6)
                      have HA6 := Lib.hid (HA5.out.call hb6)
                      have HB6 := Lib.hid (HB5.out.call hb6)
                      clear hb6 HR5 HA5 HB5 HC5
                      go_wp2_with fail
                      go_roundw
                      case rel =>
                        have hs8 := HS.out.1
                        exact ⟨s ||| 2 ^ wayL I K, K + 1, by rw [wrap_pow z0, (set_add s _ hs8 z0).1], by go_num, by omega, Lib.hid (tabp_take HS.out hI2 hJ2 hK2 HXP.out HYQ.out), HR6, HA6, HB6⟩
                      case measure => simp [intOf]; omega
                    · have hyb : ((wayL J K : Int) == (Q : Int)) = false := by simp; omega
                      have HYQ := Lib.hid hyq
                      clear hyq
                      go_wp2_with fail
                      go_roundw
                      case rel => exact ⟨s, K + 1, rfl, by go_num, by omega, Lib.hid (tabp_pass HS.out HYQ.out), HR5, HA5, HB5⟩
                      case measure => simp [intOf]; omega
                  · obtain rfl : K = 15 := by omega
                    go_wp2_with fail
                    go_roundw
                    case rel => exact ⟨s, J + 1, rfl, by go_num, by omega, Lib.hid (tabp_row HS.out), HR2, HA2⟩
                    case measure => simp [intOf]; omega
              · have hxb : ((wayL I J : Int) == (P : Int)) = false := by simp; omega
                have hxc : ((wayL I J : Int) != (P : Int)) = true := by simp; omega
                have HXP := Lib.hid hxp
                clear hxp
                go_wp2_with fail
                go_roundw
                case rel => exact ⟨s, J + 1, rfl, by go_num, by omega, Lib.hid (tabp_skip HS.out HXP.out), HR3, HA3⟩
                case measure => simp [intOf]; omega
            · obtain rfl : J = 15 := by omega
              go_wp2_with fail
              go_roundw
              case rel => exact ⟨s, I + 1, rfl, by go_num, by omega, Lib.hid (tabp_sheet HS.out), HR1⟩
              case measure => simp [intOf]; omega
        · obtain rfl : I = 15 := by omega
          have hsf := tab_full HS.out hP13 hQ13
          go_wp2_with fail
          go_ret
          exact ⟨retB (by first | rfl | (rw [hsf]; simp)), HR.out.2.2⟩

end Go.Proofs.YtpmppgmnnnlonaaDoor
