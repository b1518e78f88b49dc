/- Whether spans lie as a net says: the document's Holds. -/
import Derived.Test.YtpmppgmnnnlonaaDoorSpanR
namespace Go.Proofs.YtpmppgmnnnlonaaDoor
open Go.RowKit
theorem in_Q (z : Int) (k : Nat) (w : World) (hz : okS z) (hk : k < 13) : Calls Tryd.prog 33 #[.int .i64 z, .int .i64 (k : Int)] w fun e w' => e = .returned (.bool (z.toNat.testBit k)) ∧ Below w.heap.size w w' := by
  obtain ⟨s, rfl⟩ := Int.eq_ofNat_of_zero_le hz.1
  refine (in_any s k w (by have := hz.2; omega) hk).mono ?_
  rintro e w' ⟨rfl, rfl⟩
  exact ⟨rfl, Below.refl _ _⟩
theorem in_T (z : Int) (k : Nat) (w : World) (hz : okS z) (hk : k < 13) (h : z.toNat.testBit k = true) : Calls Tryd.prog 33 #[.int .i64 z, .int .i64 (k : Int)] w fun e w' => e = .returned (.bool true) ∧ Below w.heap.size w w' := by rw [← h]; exact in_Q z k w hz hk
theorem in_F (z : Int) (k : Nat) (w : World) (hz : okS z) (hk : k < 13) (h : z.toNat.testBit k = false) : Calls Tryd.prog 33 #[.int .i64 z, .int .i64 (k : Int)] w fun e w' => e = .returned (.bool false) ∧ Below w.heap.size w w' := by rw [← h]; exact in_Q z k w hz hk
theorem refWay_QQ (a b c d : Int) (w : World) (h1 : a < b) (h2 : c < d) : Calls Tryd.prog 30 #[.agg #[.int .i64 a, .int .i64 b], .agg #[.int .i64 c, .int .i64 d]] w fun e w' => e = .returned (.int .i64 (Sp.way a b c d : Int)) ∧ Below w.heap.size w w' := refWay_any a b c d w h1 h2
set_option maxRecDepth 100000 in
set_option maxHeartbeats 4000000 in
theorem rholds_any (oa : Option Addr) (n cap : Nat) (A : Nat → Option Addr) (L C : Nat → Nat) (z : Nat → Nat → Int) (ob : Option Addr) (m cap2 : Nat) (x y : Nat → Int) (w : World) (hn : n ≤ 1000000) (hm : m ≤ 1000000) (hL : ∀ i, i < n → L i ≤ 9223372036854775807) (hR : NetR w oa n A L C z) (hS : SpanR w ob m x y) : Calls Tryd.prog 20 #[.slice oa n cap, .slice ob m cap2] w fun e w' => e = .returned (.tuple #[.bool (holdB n L z m x y), (.int .i64 (holdE n L z m x y))]) ∧ Below w.heap.size w w' := by
  have HR := Lib.hid hR
  have HS := Lib.hid hS
  have HL := Lib.hid hL
  clear hR hS hL
  by_cases hE : netE n L z = 0
  · obtain ⟨n1, n6, hrows⟩ := net_ok hE
    obtain ⟨a, rfl⟩ := HR.out.1 (by omega)
    obtain ⟨_, hrow⟩ := HR.out.2 a rfl
    have HROW := Lib.hid hrow
    have HOK := Lib.hid hrows
    have HE := Lib.hid hE
    clear hrow hrows hE
    by_cases hmn : m = n
    · subst hmn
      have hmb : ((m : Int) != (m : Int)) = false := by simp
      obtain ⟨b, rfl⟩ := HS.out.1 (by omega)
      go_enter Tryd.func20, Tryd.ntmps20
      go_wp2_with fail
      refine (netCheck_any (some a) m cap A L C z _ hn HL.out HR.out).mono ?_; rintro e w' ⟨rfl, hw⟩; obtain rfl := hw.symm; clear hw
      rw [HE.out]
      go_wp2_with fail
      go_loopw [7] (fun c wr => ∃ i : Nat, c = .int .i64 (i : Int) ∧ i ≤ m ∧ Hid (∀ j, j < i → x j < y j) ∧ Hid (Below w.heap.size w wr)) (fun c _ => m - (intOf c).toNat)
      case atStart => exact ⟨0, rfl, by omega, Lib.hid fun j hj => absurd hj (Nat.not_lt_zero j), Lib.hid (Below.refl _ _)⟩
      case round =>
        obtain ⟨i, rfl, hi, HI, HB⟩ := hrel
        by_cases hlt : i < m
        · obtain ⟨h1, h2⟩ := (HS.out.call HB.out).at i hlt
          obtain ⟨X, hX⟩ : ∃ X, x i = X := ⟨_, rfl⟩
          obtain ⟨Y, hY⟩ : ∃ Y, y i = Y := ⟨_, rfl⟩
          rw [hX] at h1
          rw [hY] at h2
          have HXY := Lib.hid (And.intro hX hY)
          have hbz := HB.out.size
          clear hX hY
          have i1 : (0 : Int) ≤ (i : Int) := by omega
          have i2 : (i : Int) < (m : Int) := by omega
          by_cases hxy : X < Y
          · have hyx : ¬ Y ≤ X := by omega
            go_wp2_with fail
            go_quiet (fail)
            go_wp2_with fail
            go_roundw
            case rel =>
              refine ⟨i + 1, by go_num, by omega, Lib.hid fun j hj => ?_, Lib.hid (below_drewN HB.out _)⟩
              by_cases e : j = i
              · subst e; rw [HXY.out.1, HXY.out.2]; exact hxy
              · exact HI.out j (by omega)
            case measure => simp [intOf]; omega
          · have hyx : Y ≤ X := by omega
            go_wp2_with fail
            go_quiet (fail)
            go_wp2_with fail
            go_ret2
            have hE := holdE_empty (n := m) (L := L) (z := z) (m := m) (x := x) (y := y) HE.out rfl hlt (by rw [HXY.out.1, HXY.out.2]; omega)
            rw [hE, holdB_bad (by rw [hE]; decide)]
            exact ⟨rfl, below_drewN HB.out _⟩
        · obtain rfl : m = i := by omega
          have hE := holdE_ok (n := m) (L := L) (z := z) (m := m) (x := x) (y := y) HE.out rfl HI.out
          have HE0 := Lib.hid hE
          clear hE
          obtain ⟨wo, rfl⟩ : ∃ wo : World, wo = wr := ⟨_, rfl⟩
          go_wp2_with fail
          go_loopw [8] (fun c wr => ∃ i : Nat, c = .int .i64 (i : Int) ∧ i ≤ m ∧ Hid (∀ j k, j < i → k < m → (z j k).toNat.testBit (Sp.way (x j) (y j) (x k) (y k)) = true) ∧ Hid (Below w.heap.size w wr)) (fun c _ => m - (intOf c).toNat)
          case atStart => exact ⟨0, rfl, by omega, Lib.hid fun j k hj => absurd hj (Nat.not_lt_zero j), HB⟩
          case round =>
            clear HB
            obtain ⟨i, rfl, hi, HJ, HB⟩ := hrel
            by_cases hlt2 : i < m
            · have hFd : decide ((i : Int) < (m : Int)) = true := by simp; omega
              have hFe : decide (i < m) = true := by simp; omega
              obtain ⟨wo2, rfl⟩ : ∃ wo : World, wo = wr := ⟨_, rfl⟩
              go_wp2_with fail
              go_loopw [9] (fun c wr => ∃ k : Nat, c = .int .i64 (k : Int) ∧ k ≤ m ∧ Hid (∀ l, l < k → (z i l).toNat.testBit (Sp.way (x i) (y i) (x l) (y l)) = true) ∧ Hid (Below w.heap.size w wr)) (fun c _ => m - (intOf c).toNat)
              case atStart => exact ⟨0, rfl, by omega, Lib.hid fun l hl => absurd hl (Nat.not_lt_zero l), HB⟩
              case round =>
                clear HB
                obtain ⟨k, rfl, hk, HK, HB⟩ := hrel
                by_cases hlt3 : k < m
                · obtain ⟨q1, q2⟩ := (HS.out.call HB.out).at i hlt2
                  obtain ⟨q3, q4⟩ := (HS.out.call HB.out).at k hlt3
                  obtain ⟨q5, q6, q7⟩ := ((HR.out.call HB.out).2 a rfl).2 i hlt2
                  obtain ⟨g1, g2⟩ := HOK.out i hlt2
                  rw [g1] at q5 q6 q7
                  obtain ⟨r, hr⟩ := q6 (by omega)
                  rw [hr] at q5
                  have q8 := (q7 r hr).2 k hlt3
                  have hzk := g2 k hlt3
                  have hx1 := HI.out i hlt2
                  have hx2 := HI.out k hlt3
                  have i1 : (0 : Int) ≤ (i : Int) := by omega
                  have i2 : (i : Int) < (m : Int) := by omega
                  have k1 : (0 : Int) ≤ (k : Int) := by omega
                  have k2 : (k : Int) < (m : Int) := by omega
                  have r1 := cell_regrown q1
                  have r2 := cell_regrown q2
                  have r3 := cell_regrown q3
                  have r4 := cell_regrown q4
                  have r5 := cell_regrown q5
                  have r6 := cell_regrown q8
                  have HZK := Lib.hid hzk
                  have HX12 := Lib.hid (And.intro hx1 hx2)
                  clear q1 q2 q3 q4 q5 q6 q7 q8 g1 g2 hr hzk hx1 hx2
                  have hv := Sp.way_lt (x i) (y i) (x k) (y k)
                  cases hb : (z i k).toNat.testBit (Sp.way (x i) (y i) (x k) (y k))
                  · have HBIT := Lib.hid hb
                    clear hb
                    go_wp2_with fail
                    refine wp_region_below (by kernel_rfl) (by kernel_rfl) ?_
                    repeat (go_big_quiet_step ((first | (go_at_call 30; exact Calls.regrown_of (refWay_QQ _ _ _ _ _ HX12.out.1 HX12.out.2)) | (go_at_call 33; exact Calls.regrown_of (in_F _ _ _ HZK.out hv HBIT.out)))))
                    refine wpQuiet_nil ?_
                    intro w1 hb1
                    have HB1 := Lib.hid (thenB HB.out hb1)
                    clear hb1 r1 r2 r3 r4 r5 r6
                    go_wp2_with fail
                    go_ret2
                    rw [HE0.out, holdB_no hlt2 hlt3 HBIT.out]
                    exact ⟨rfl, HB1.out⟩
                  · have HBIT := Lib.hid hb
                    clear hb
                    go_wp2_with fail
                    refine wp_region_below (by kernel_rfl) (by kernel_rfl) ?_
                    repeat (go_big_quiet_step ((first | (go_at_call 30; exact Calls.regrown_of (refWay_QQ _ _ _ _ _ HX12.out.1 HX12.out.2)) | (go_at_call 33; exact Calls.regrown_of (in_T _ _ _ HZK.out hv HBIT.out)))))
                    refine wpQuiet_nil ?_
                    intro w1 hb1
                    have HB1 := Lib.hid (thenB HB.out hb1)
                    clear hb1 r1 r2 r3 r4 r5 r6
                    go_wp2_with fail
                    go_roundw
                    case rel =>
                      refine ⟨k + 1, by go_num, by omega, Lib.hid fun l hl => ?_, HB1⟩
                      by_cases e : l = k
                      · subst e; exact HBIT.out
                      · exact HK.out l (by omega)
                    case measure => simp [intOf]; omega
                · obtain rfl : m = k := by omega
                  go_wp2_with fail
                  go_roundw
                  case rel =>
                    refine ⟨i + 1, by go_num, by omega, Lib.hid fun j l hj hl => ?_, HB⟩
                    by_cases e : j = i
                    · subst e; exact HK.out l hl
                    · exact HJ.out j l (by omega) hl
                  case measure => simp [intOf]; omega
            · obtain rfl : m = i := by omega
              go_wp2_with fail
              go_ret2
              rw [HE0.out, holdB_yes HE0.out HJ.out]
              exact ⟨rfl, HB.out⟩
    · have hmb : ((m : Int) != (n : Int)) = true := by simp; omega
      have HMN := Lib.hid hmn
      clear hmn
      go_enter Tryd.func20, Tryd.ntmps20
      go_wp2_with fail
      refine (netCheck_any (some a) n cap A L C z _ hn HL.out HR.out).mono ?_; rintro e w' ⟨rfl, hw⟩; obtain rfl := hw.symm; clear hw
      rw [HE.out]
      go_wp2_with fail
      go_ret2
      have hE := holdE_len (L := L) (z := z) (x := x) (y := y) HE.out HMN.out
      rw [hE, holdB_bad (by rw [hE]; decide)]
      exact ⟨rfl, Below.refl _ _⟩
  · have hE := holdE_net (m := m) (x := x) (y := y) hE
    have hE2 : holdE n L z m x y ≠ 0 := by rw [hE]; assumption
    rw [holdB_bad hE2, hE]
    rename_i hE0
    have hv : (netE n L z != 0) = true := by simpa using hE0
    clear hE hE2 hE0
    go_enter Tryd.func20, Tryd.ntmps20
    go_wp2_with fail
    refine (netCheck_any oa n cap A L C z _ hn HL.out HR.out).mono ?_; rintro e w' ⟨rfl, hw⟩; obtain rfl := hw.symm; clear hw
    go_wp2_with fail
    go_ret2
    exact ⟨rfl, Below.refl _ _⟩
end Go.Proofs.YtpmppgmnnnlonaaDoor
