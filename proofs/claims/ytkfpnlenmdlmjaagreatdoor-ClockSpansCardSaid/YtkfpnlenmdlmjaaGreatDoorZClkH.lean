/- Adding a period to a time: the document's; and the law ClockAdds. -/
import Derived.Test.YtkfpnlenmdlmjaaGreatDoorZG12
import Derived.Test.YtkfpnlenmdlmjaaGreatDoorZG11
namespace Go.Proofs.YtkfpnlenmdlmjaaGreatDoor
open Go.RowKit
set_option maxRecDepth 100000 in
set_option maxHeartbeats 4000000 in
theorem refAdd_all (t Y M W D S : Int) (w : World) (ht : InI t) : Calls Tryz.prog 38 #[.int .i64 t, .agg #[.int .i64 Y, .int .i64 M, .int .i64 W, .int .i64 D, .int .i64 S]] w (AddPost t Y M W D S (.int .i64) w) := by
  have HI := Lib.hid ht; clear ht
  go_enter Tryz.func38, Tryz.ntmps38
  go_wp2_with fail
  refine (refSplit_all _ _ HI.out).mono ?_; rintro e w' ⟨rfl, rfl⟩
  obtain ⟨E0, hE0⟩ : ∃ E0, locE t = E0 := ⟨_, rfl⟩
  obtain ⟨D0, hD0⟩ : ∃ D0, locD t = D0 := ⟨_, rfl⟩
  obtain ⟨S0, hS0⟩ : ∃ S0, locS t = S0 := ⟨_, rfl⟩
  rw [hE0, hD0, hS0]
  have HE0 := Lib.hid (And.intro hE0 (And.intro hD0 hS0)); clear hE0 hD0 hS0
  go_wp2_with fail
  refine (small_any _ _ _ _ _ _).mono ?_; rintro en w1 ⟨hsm, hb1⟩
  have hz1 := hb1.size
  simp only [World.size_alloc] at hz1
  obtain ⟨q1, p1⟩ := carry hb1 w.heap.size (by simp)
  have hs1 : w.heap.size < w1.heap.size := by omega
  have HB1 := Lib.hid (offA hb1); clear hb1
  rcases hsm with ⟨rfl, hs⟩ | ⟨rfl, hs⟩
  · have HS := Lib.hid hs
    obtain ⟨⟨a1, a2⟩, ⟨b1, b2⟩, ⟨c1, c2⟩, ⟨d1, d2⟩, ⟨e1, e2⟩⟩ := small_iff hs
    clear hs
    rcases loc_ways t with h | ⟨h1, h2⟩
    · have HH := Lib.hid h
      have hl := loc_out h
      rw [HE0.out.1] at hl
      obtain ⟨rfl, _, _⟩ := hl
      clear h
      go_wp2_with fail
      go_ret2
      exact ⟨0, 4, rfl, .inl ⟨.inr HH.out, rfl, rfl⟩, HB1.out⟩
    · have hl := loc_in h1 h2
      rw [HE0.out.1, HE0.out.2.1, HE0.out.2.2] at hl
      obtain ⟨rfl, hD0, hS0⟩ := hl
      have hq := day_of_loc h1 h2
      have hts : 0 ≤ t % 86400 ∧ t % 86400 < 86400 := by omega
      rw [← hD0] at hq
      rw [← hS0] at hts
      have HQ := Lib.hid (And.intro hD0 hS0); clear hD0 hS0
      have HH := Lib.hid (And.intro h1 h2); clear h1 h2 HE0
      by_cases hYM : Y = 0 ∧ M = 0
      · obtain ⟨rfl, rfl⟩ := hYM
        have HMK : ∀ r x, AddF D0 S0 W D S r x → AddR t 0 0 W D S r x := fun r x hf => .inr ⟨HS.out, HH.out.1, HH.out.2, D0, 0, .inl ⟨rfl, rfl, HQ.out.1, rfl⟩, .inr ⟨rfl, by rw [← HQ.out.2]; exact hf⟩⟩
        rcases (show (D0 + 7 * W + D < -4000000 ∨ 4000000 < D0 + 7 * W + D) ∨ (-4000000 ≤ D0 + 7 * W + D ∧ D0 + 7 * W + D ≤ 4000000) by omega) with g | ⟨g1, g2⟩
        · have HG := Lib.hid (And.intro g (range_out g)); clear g
          go_wp2_with fail
          refine (there_r _ _).mono ?_; rintro e w' ⟨rfl, rfl⟩
          rw [HG.out.2.1, HG.out.2.2]
          go_wp2_with fail
          go_ret2
          exact ⟨0, 4, rfl, HMK _ _ (.inr ⟨fun h => by have h5 := HG.out.1; unfold AddOk at h; omega, rfl, rfl⟩), HB1.out⟩
        · have HG := Lib.hid (range_in g1 g2)
          have hN : addN D0 S0 W D S = (D0 + 7 * W + D) * 86400 + S0 + S := by unfold addN; omega
          have HN := Lib.hid hN; clear hN
          rcases loc_ways ((D0 + 7 * W + D) * 86400 + S0 + S) with h | ⟨h1, h2⟩
          · have hb : (decide (-345600000000 ≤ (D0 + 7 * W + D) * 86400 + S0 + S) && decide ((D0 + 7 * W + D) * 86400 + S0 + S ≤ 345600086399)) = false := by simp; omega
            have HH2 := Lib.hid h; clear h
            go_wp2_with fail
            refine (there_r _ _).mono ?_; rintro e w' ⟨rfl, rfl⟩
            rw [HG.out.1, HG.out.2]
            go_wp2_with fail
            refine (localOK_any _ _ (InI.mk (by omega) (by omega))).mono ?_; rintro e w' ⟨rfl, rfl⟩
            rw [hb]
            go_wp2_with fail
            go_ret2
            exact ⟨0, 4, rfl, HMK _ _ (.inr ⟨fun h => by have h5 := HH2.out; obtain ⟨_, _, h6, h7⟩ := h; rw [HN.out] at h6 h7; omega, rfl, rfl⟩), HB1.out⟩
          · have hb : (decide (-345600000000 ≤ (D0 + 7 * W + D) * 86400 + S0 + S) && decide ((D0 + 7 * W + D) * 86400 + S0 + S ≤ 345600086399)) = true := by simp; omega
            go_wp2_with fail
            refine (there_r _ _).mono ?_; rintro e w' ⟨rfl, rfl⟩
            rw [HG.out.1, HG.out.2]
            go_wp2_with fail
            refine (localOK_any _ _ (InI.mk (by omega) (by omega))).mono ?_; rintro e w' ⟨rfl, rfl⟩
            rw [hb]
            go_wp2_with fail
            go_ret2
            exact ⟨_, 0, rfl, HMK _ _ (.inl ⟨⟨by omega, by omega, by rw [HN.out]; exact h1, by rw [HN.out]; exact h2⟩, HN.out.symm, rfl⟩), HB1.out⟩
      · have hb : (Y == 0) = false ∨ (Y = 0 ∧ (M == 0) = false) := by
          by_cases hY : Y = 0
          · exact .inr ⟨hY, by simpa using fun h => hYM ⟨hY, h⟩⟩
          · exact .inl (by simpa using hY)
        have HYM := Lib.hid hYM; clear hYM
        have HWDS := Lib.hid (And.intro (And.intro c1 c2) (And.intro (And.intro d1 d2) (And.intro (And.intro e1 e2) (And.intro hq hts))))
        clear c1 c2 d1 d2 e1 e2 hq hts
        rcases hb with hb | ⟨rfl, hb⟩
        · go_wp2_with fail
          refine (greg_any _ _).mono ?_; rintro en w2 ⟨a, y, m, d, rfl, hR, hb2⟩
          have hv : a = 1 ∧ Dm.Valid 1 y m d ∧ Dm.dayOf 1 y m d = D0 := by
            rcases hR with ⟨e, _⟩ | ⟨_, ha, _, _, hv, hd⟩
            · exact absurd (ofE_ok (by omega) (by omega) HWDS.out.2.2.2.1.1 HWDS.out.2.2.2.1.2) e
            · exact ⟨ha, hv, hd⟩
          clear hR
          obtain ⟨rfl, hv, hd⟩ := hv
          have HV := Lib.hid (And.intro hv hd); clear hd
          obtain ⟨y1, y2, m1, m2, dd1, dd2⟩ := hv
          rw [Dm.greg12] at m2
          clear dd2 dd1
          unfold dateV
          have hz2 := hb2.size
          obtain ⟨q2, p2⟩ := carry hb2 w.heap.size hs1
          have hs2 : w.heap.size < w2.heap.size := by omega
          have HB2 := Lib.hid (thenB HB1.out hb2); clear hb2
          obtain ⟨YY, hY0⟩ : ∃ YY, Dm.monY y m (12 * Y + M) = YY := ⟨_, rfl⟩
          obtain ⟨MM, hM0⟩ : ∃ MM, Dm.monM y m (12 * Y + M) = MM := ⟨_, rfl⟩
          have hMb := Dm.mon_bd y m (12 * Y + M)
          rw [hY0, hM0] at hMb
          obtain ⟨hm1, hm12, _⟩ := hMb
          have e1 : (y * 12 + m - 1 + 12 * Y + M) / 12 = YY := by rw [← hY0]; unfold Dm.monY; congr 1; omega
          have e2 : (y * 12 + m - 1 + 12 * Y + M) % 12 + 1 = MM := by rw [← hM0]; unfold Dm.monM; congr 2; omega
          have HN := Lib.hid (And.intro e1 (And.intro e2 (And.intro hY0 hM0))); clear e1 e2 hY0 hM0
          have hL := Dm.greg_len YY MM hm1 hm12
          obtain ⟨L, hL0⟩ : ∃ L, Dm.length 1 YY MM = L := ⟨_, rfl⟩
          rw [hL0] at hL
          have HL := Lib.hid hL0; clear hL0
          go_wp2_with fail
          refine (Floor_any _ _ _ (by omega) (by omega) (by omega) (by omega)).mono ?_; rintro e w' ⟨rfl, rfl⟩
          rw [HN.out.1]
          go_wp2_with fail
          refine (Mod_any _ _ _ (by omega) (by omega)).mono ?_; rintro e w' ⟨rfl, rfl⟩
          go_wp2_with fail
          rw [HN.out.2.1]
          clear y1 y2 m1 m2 a1 a2 b1 b2
          rcases (show (YY < -20000 ∨ 20000 < YY) ∨ (-20000 ≤ YY ∧ YY ≤ 20000) by omega) with hy | ⟨hy1, hy2⟩
          · have HY := Lib.hid (And.intro hy (show yearE 1 YY = 4 from yearE_range (by omega) (by omega) hy)); clear hy
            refine (year_any _ _ _).mono ?_; rintro e w' ⟨rfl, rfl⟩
            rw [HY.out.2]
            go_wp2_with fail
            go_ret2
            exact ⟨0, 4, rfl, .inr ⟨HS.out, HH.out.1, HH.out.2, 0, 4, .inr ⟨HYM.out, ⟨y, m, d, HV.out.1, HV.out.2.trans HQ.out.1, .inl ⟨by rw [HN.out.2.2.1]; exact HY.out.1, rfl, rfl⟩⟩⟩, .inl ⟨by decide, rfl, rfl⟩⟩, HB2.out.alloc (by omega) _⟩
          · have HYE := Lib.hid (show yearE 1 YY = 0 from yearE_ok (by omega) (by omega) hy1 hy2)
            have hlE : lenE 1 YY MM = 0 := by unfold lenE; rw [HYE.out, if_neg (by simp), Dm.greg12, if_neg (by omega)]
            have HLE := Lib.hid hlE; clear hlE
            refine (year_any _ _ _).mono ?_; rintro e w' ⟨rfl, rfl⟩
            rw [HYE.out]
            have hwr : IntKind.i64.wrap (MM - 1) = MM - 1 := IntWalk.i64_in _ (by omega)
            have hge1 : 0 ≤ MM - 1 := by omega
            have hlt3 : MM - 1 < 12 := by omega
            go_wp2_with fail
            go_region_with (go_at_call 70; refine (Lengths_any _ _ _ (by omega) (by omega) (by omega) (by omega)).mono ?_; rintro e w3 ⟨B, n, cap, rfl, hn, hB1, hB2, hx, hb3⟩; rw [Dm.greg12] at hn; have hcell : w3.cell? ⟨B, MM.toNat - 1, none⟩ = some (.int .i64 L) := (by have := hx (MM.toNat - 1) (by omega); rw [this, show ((MM.toNat - 1 : Nat) : Int) + 1 = MM by omega, HL.out]); have hz3 := (offD hb3).size; simp only [World.size_alloc] at hz3; obtain ⟨q3, p3⟩ := carry (offD hb3) w.heap.size (by simp; omega); have q3' : ∀ o, w3.cell? ⟨w.heap.size, o, none⟩ = w2.cell? ⟨w.heap.size, o, none⟩ := (fun o => (q3 o).trans (cell_alloc hs2)); obtain ⟨q5, p5⟩ := carry (offD hb3) w2.heap.size (by simp); have hs3 : w.heap.size < w3.heap.size := (by omega); have hs5 : w2.heap.size < w3.heap.size := (by omega); have HB3 := Lib.hid (thenB HB2.out (offA (offD hb3))); have hlt1 : MM - 1 < (n : Int) := (by omega); have hlt2 : MM.toNat - 1 < n := (by omega); have hm2 : MM ≤ (n : Int) := (by omega); have hn12 : n = 12 := (by omega); clear hb3 hx q3 hB1)
            all_goals
              clear hwr hge1 hlt3 hlt1 hlt2 hm2 hn hn12
              by_cases hdl : d ≤ L
              · have hcl : Dm.clipD YY MM d = d := by unfold Dm.clipD; rw [HL.out, if_pos hdl]
                have hmd : Dm.monDay y m d (12 * Y + M) = Dm.dayOf 1 YY MM d := by unfold Dm.monDay; rw [HN.out.2.2.1, HN.out.2.2.2, hcl]
                have hv := Dm.mon_valid (y := y) (m := m) (d := d) (k := 12 * Y + M) (by rw [HN.out.2.2.1]; exact hy1) (by rw [HN.out.2.2.1]; exact hy2) HV.out.1.2.2.2.2.1
                rw [HN.out.2.2.1, HN.out.2.2.2, hcl] at hv
                have hday := dayE_ok HLE.out hv.2.2.2.2.1 hv.2.2.2.2.2
                have HD : Hid (dayE 1 YY MM d = rangeE (Dm.monDay y m d (12 * Y + M)) ∧ dayR 1 YY MM d = rangeR (Dm.monDay y m d (12 * Y + M))) := Lib.hid (by rw [hmd]; exact hday)
                have HMR : Hid (MonR (t / 86400) (12 * Y + M) (rangeR (Dm.monDay y m d (12 * Y + M))) (rangeE (Dm.monDay y m d (12 * Y + M)))) := Lib.hid ⟨y, m, d, HV.out.1, HV.out.2.trans HQ.out.1, .inr ⟨by rw [HN.out.2.2.1]; exact hy1, by rw [HN.out.2.2.1]; exact hy2, rfl, rfl⟩⟩
                clear hcl hmd hv hday
                go_wp2_with fail
                refine (refDay_any _ _ _ _ _).mono ?_; rintro en w4 ⟨rfl, hb4⟩
                rw [HD.out.1, HD.out.2]
                have hz4 := hb4.size
                obtain ⟨q4, p4⟩ := carry hb4 w.heap.size hs3
                have hs4 : w.heap.size < w4.heap.size := by omega
                have HB4 := Lib.hid (thenB HB3.out hb4); clear hb4
                obtain ⟨⟨c1, c2⟩, ⟨d1, d2⟩, ⟨e1, e2⟩, hq, hts⟩ := HWDS.out
                clear hL hz3 hz2 hs5
                obtain ⟨z, hz0⟩ : ∃ z, rangeE (Dm.monDay y m d (12 * Y + M)) = z := ⟨_, rfl⟩
                obtain ⟨q, hq0⟩ : ∃ q, rangeR (Dm.monDay y m d (12 * Y + M)) = q := ⟨_, rfl⟩
                have hm := HMR.out
                rw [hz0, hq0] at hm ⊢
                clear hz0 hq0 HD
                by_cases hz : z = 0
                · subst hz
                  have hq2 := hm.in
                  have HMK : ∀ r x, AddF q S0 W D S r x → AddR t Y M W D S r x := fun r x hf => .inr ⟨HS.out, HH.out.1, HH.out.2, q, 0, .inr ⟨HYM.out, hm⟩, .inr ⟨rfl, by rw [← HQ.out.2]; exact hf⟩⟩
                  rcases (show (q + 7 * W + D < -4000000 ∨ 4000000 < q + 7 * W + D) ∨ (-4000000 ≤ q + 7 * W + D ∧ q + 7 * W + D ≤ 4000000) by omega) with g | ⟨g1, g2⟩
                  · have HG := Lib.hid (And.intro g (range_out g)); clear g
                    go_wp2_with fail
                    refine (there_r _ _).mono ?_; rintro e w' ⟨rfl, rfl⟩
                    rw [HG.out.2.1, HG.out.2.2]
                    go_wp2_with fail
                    go_ret2
                    exact ⟨0, 4, rfl, HMK _ _ (.inr ⟨fun h => by have h5 := HG.out.1; unfold AddOk at h; omega, rfl, rfl⟩), HB4.out⟩
                  · have HG := Lib.hid (range_in g1 g2)
                    have hN : addN q S0 W D S = (q + 7 * W + D) * 86400 + S0 + S := by unfold addN; omega
                    have HN := Lib.hid hN; clear hN
                    rcases loc_ways ((q + 7 * W + D) * 86400 + S0 + S) with h | ⟨h1, h2⟩
                    · have hb : (decide (-345600000000 ≤ (q + 7 * W + D) * 86400 + S0 + S) && decide ((q + 7 * W + D) * 86400 + S0 + S ≤ 345600086399)) = false := by simp; omega
                      have HH2 := Lib.hid h; clear h
                      go_wp2_with fail
                      refine (there_r _ _).mono ?_; rintro e w' ⟨rfl, rfl⟩
                      rw [HG.out.1, HG.out.2]
                      go_wp2_with fail
                      refine (localOK_any _ _ (InI.mk (by omega) (by omega))).mono ?_; rintro e w' ⟨rfl, rfl⟩
                      rw [hb]
                      go_wp2_with fail
                      go_ret2
                      exact ⟨0, 4, rfl, HMK _ _ (.inr ⟨fun h => by have h5 := HH2.out; obtain ⟨_, _, h6, h7⟩ := h; rw [HN.out] at h6 h7; omega, rfl, rfl⟩), HB4.out⟩
                    · have hb : (decide (-345600000000 ≤ (q + 7 * W + D) * 86400 + S0 + S) && decide ((q + 7 * W + D) * 86400 + S0 + S ≤ 345600086399)) = true := by simp; omega
                      go_wp2_with fail
                      refine (there_r _ _).mono ?_; rintro e w' ⟨rfl, rfl⟩
                      rw [HG.out.1, HG.out.2]
                      go_wp2_with fail
                      refine (localOK_any _ _ (InI.mk (by omega) (by omega))).mono ?_; rintro e w' ⟨rfl, rfl⟩
                      rw [hb]
                      go_wp2_with fail
                      go_ret2
                      exact ⟨_, 0, rfl, HMK _ _ (.inl ⟨⟨by omega, by omega, by rw [HN.out]; exact h1, by rw [HN.out]; exact h2⟩, HN.out.symm, rfl⟩), HB4.out⟩
                · have h4 := hm.four hz
                  have HMM := Lib.hid hm; clear hm
                  obtain ⟨rfl, rfl⟩ := h4
                  go_wp2_with fail
                  go_ret2
                  exact ⟨0, 4, rfl, .inr ⟨HS.out, HH.out.1, HH.out.2, 0, 4, .inr ⟨HYM.out, HMM.out⟩, .inl ⟨hz, rfl, rfl⟩⟩, HB4.out⟩
              · have hcl : Dm.clipD YY MM d = L := by unfold Dm.clipD; rw [HL.out, if_neg hdl]
                have hmd : Dm.monDay y m d (12 * Y + M) = Dm.dayOf 1 YY MM L := by unfold Dm.monDay; rw [HN.out.2.2.1, HN.out.2.2.2, hcl]
                have hv := Dm.mon_valid (y := y) (m := m) (d := d) (k := 12 * Y + M) (by rw [HN.out.2.2.1]; exact hy1) (by rw [HN.out.2.2.1]; exact hy2) HV.out.1.2.2.2.2.1
                rw [HN.out.2.2.1, HN.out.2.2.2, hcl] at hv
                have hday := dayE_ok HLE.out hv.2.2.2.2.1 hv.2.2.2.2.2
                have HD : Hid (dayE 1 YY MM L = rangeE (Dm.monDay y m d (12 * Y + M)) ∧ dayR 1 YY MM L = rangeR (Dm.monDay y m d (12 * Y + M))) := Lib.hid (by rw [hmd]; exact hday)
                have HMR : Hid (MonR (t / 86400) (12 * Y + M) (rangeR (Dm.monDay y m d (12 * Y + M))) (rangeE (Dm.monDay y m d (12 * Y + M)))) := Lib.hid ⟨y, m, d, HV.out.1, HV.out.2.trans HQ.out.1, .inr ⟨by rw [HN.out.2.2.1]; exact hy1, by rw [HN.out.2.2.1]; exact hy2, rfl, rfl⟩⟩
                clear hcl hmd hv hday
                go_wp2_with fail
                refine (refDay_any _ _ _ _ _).mono ?_; rintro en w4 ⟨rfl, hb4⟩
                rw [HD.out.1, HD.out.2]
                have hz4 := hb4.size
                simp only [World.size_setCell] at hz4
                obtain ⟨q4, p4⟩ := carry hb4 w.heap.size (by simp; omega)
                have q4' : ∀ o, w4.cell? ⟨w.heap.size, o, none⟩ = w3.cell? ⟨w.heap.size, o, none⟩ := fun o => (q4 o).trans (cell_set (by simp; omega))
                clear q4
                have hs4 : w.heap.size < w4.heap.size := by omega
                have HB4 := Lib.hid (thenB (HB3.out.setCell (by simp; omega) _) hb4); clear hb4
                obtain ⟨⟨c1, c2⟩, ⟨d1, d2⟩, ⟨e1, e2⟩, hq, hts⟩ := HWDS.out
                clear hL hz3 hz2 hs5
                obtain ⟨z, hz0⟩ : ∃ z, rangeE (Dm.monDay y m d (12 * Y + M)) = z := ⟨_, rfl⟩
                obtain ⟨q, hq0⟩ : ∃ q, rangeR (Dm.monDay y m d (12 * Y + M)) = q := ⟨_, rfl⟩
                have hm := HMR.out
                rw [hz0, hq0] at hm ⊢
                clear hz0 hq0 HD
                by_cases hz : z = 0
                · subst hz
                  have hq2 := hm.in
                  have HMK : ∀ r x, AddF q S0 W D S r x → AddR t Y M W D S r x := fun r x hf => .inr ⟨HS.out, HH.out.1, HH.out.2, q, 0, .inr ⟨HYM.out, hm⟩, .inr ⟨rfl, by rw [← HQ.out.2]; exact hf⟩⟩
                  rcases (show (q + 7 * W + D < -4000000 ∨ 4000000 < q + 7 * W + D) ∨ (-4000000 ≤ q + 7 * W + D ∧ q + 7 * W + D ≤ 4000000) by omega) with g | ⟨g1, g2⟩
                  · have HG := Lib.hid (And.intro g (range_out g)); clear g
                    go_wp2_with fail
                    refine (there_r _ _).mono ?_; rintro e w' ⟨rfl, rfl⟩
                    rw [HG.out.2.1, HG.out.2.2]
                    go_wp2_with fail
                    go_ret2
                    exact ⟨0, 4, rfl, HMK _ _ (.inr ⟨fun h => by have h5 := HG.out.1; unfold AddOk at h; omega, rfl, rfl⟩), HB4.out⟩
                  · have HG := Lib.hid (range_in g1 g2)
                    have hN : addN q S0 W D S = (q + 7 * W + D) * 86400 + S0 + S := by unfold addN; omega
                    have HN := Lib.hid hN; clear hN
                    rcases loc_ways ((q + 7 * W + D) * 86400 + S0 + S) with h | ⟨h1, h2⟩
                    · have hb : (decide (-345600000000 ≤ (q + 7 * W + D) * 86400 + S0 + S) && decide ((q + 7 * W + D) * 86400 + S0 + S ≤ 345600086399)) = false := by simp; omega
                      have HH2 := Lib.hid h; clear h
                      go_wp2_with fail
                      refine (there_r _ _).mono ?_; rintro e w' ⟨rfl, rfl⟩
                      rw [HG.out.1, HG.out.2]
                      go_wp2_with fail
                      refine (localOK_any _ _ (InI.mk (by omega) (by omega))).mono ?_; rintro e w' ⟨rfl, rfl⟩
                      rw [hb]
                      go_wp2_with fail
                      go_ret2
                      exact ⟨0, 4, rfl, HMK _ _ (.inr ⟨fun h => by have h5 := HH2.out; obtain ⟨_, _, h6, h7⟩ := h; rw [HN.out] at h6 h7; omega, rfl, rfl⟩), HB4.out⟩
                    · have hb : (decide (-345600000000 ≤ (q + 7 * W + D) * 86400 + S0 + S) && decide ((q + 7 * W + D) * 86400 + S0 + S ≤ 345600086399)) = true := by simp; omega
                      go_wp2_with fail
                      refine (there_r _ _).mono ?_; rintro e w' ⟨rfl, rfl⟩
                      rw [HG.out.1, HG.out.2]
                      go_wp2_with fail
                      refine (localOK_any _ _ (InI.mk (by omega) (by omega))).mono ?_; rintro e w' ⟨rfl, rfl⟩
                      rw [hb]
                      go_wp2_with fail
                      go_ret2
                      exact ⟨_, 0, rfl, HMK _ _ (.inl ⟨⟨by omega, by omega, by rw [HN.out]; exact h1, by rw [HN.out]; exact h2⟩, HN.out.symm, rfl⟩), HB4.out⟩
                · have h4 := hm.four hz
                  have HMM := Lib.hid hm; clear hm
                  obtain ⟨rfl, rfl⟩ := h4
                  go_wp2_with fail
                  go_ret2
                  exact ⟨0, 4, rfl, .inr ⟨HS.out, HH.out.1, HH.out.2, 0, 4, .inr ⟨HYM.out, HMM.out⟩, .inl ⟨hz, rfl, rfl⟩⟩, HB4.out⟩
        · go_wp2_with fail
          refine (greg_any _ _).mono ?_; rintro en w2 ⟨a, y, m, d, rfl, hR, hb2⟩
          have hv : a = 1 ∧ Dm.Valid 1 y m d ∧ Dm.dayOf 1 y m d = D0 := by
            rcases hR with ⟨e, _⟩ | ⟨_, ha, _, _, hv, hd⟩
            · exact absurd (ofE_ok (by omega) (by omega) HWDS.out.2.2.2.1.1 HWDS.out.2.2.2.1.2) e
            · exact ⟨ha, hv, hd⟩
          clear hR
          obtain ⟨rfl, hv, hd⟩ := hv
          have HV := Lib.hid (And.intro hv hd); clear hd
          obtain ⟨y1, y2, m1, m2, dd1, dd2⟩ := hv
          rw [Dm.greg12] at m2
          clear dd2 dd1
          unfold dateV
          have hz2 := hb2.size
          obtain ⟨q2, p2⟩ := carry hb2 w.heap.size hs1
          have hs2 : w.heap.size < w2.heap.size := by omega
          have HB2 := Lib.hid (thenB HB1.out hb2); clear hb2
          obtain ⟨YY, hY0⟩ : ∃ YY, Dm.monY y m (12 * 0 + M) = YY := ⟨_, rfl⟩
          obtain ⟨MM, hM0⟩ : ∃ MM, Dm.monM y m (12 * 0 + M) = MM := ⟨_, rfl⟩
          have hMb := Dm.mon_bd y m (12 * 0 + M)
          rw [hY0, hM0] at hMb
          obtain ⟨hm1, hm12, _⟩ := hMb
          have e1 : (y * 12 + m - 1 + M) / 12 = YY := by rw [← hY0]; unfold Dm.monY; congr 1; omega
          have e2 : (y * 12 + m - 1 + M) % 12 + 1 = MM := by rw [← hM0]; unfold Dm.monM; congr 2; omega
          have HN := Lib.hid (And.intro e1 (And.intro e2 (And.intro hY0 hM0))); clear e1 e2 hY0 hM0
          have hL := Dm.greg_len YY MM hm1 hm12
          obtain ⟨L, hL0⟩ : ∃ L, Dm.length 1 YY MM = L := ⟨_, rfl⟩
          rw [hL0] at hL
          have HL := Lib.hid hL0; clear hL0
          go_wp2_with fail
          refine (Floor_any _ _ _ (by omega) (by omega) (by omega) (by omega)).mono ?_; rintro e w' ⟨rfl, rfl⟩
          rw [HN.out.1]
          go_wp2_with fail
          refine (Mod_any _ _ _ (by omega) (by omega)).mono ?_; rintro e w' ⟨rfl, rfl⟩
          go_wp2_with fail
          rw [HN.out.2.1]
          clear y1 y2 m1 m2 a1 a2 b1 b2
          rcases (show (YY < -20000 ∨ 20000 < YY) ∨ (-20000 ≤ YY ∧ YY ≤ 20000) by omega) with hy | ⟨hy1, hy2⟩
          · have HY := Lib.hid (And.intro hy (show yearE 1 YY = 4 from yearE_range (by omega) (by omega) hy)); clear hy
            refine (year_any _ _ _).mono ?_; rintro e w' ⟨rfl, rfl⟩
            rw [HY.out.2]
            go_wp2_with fail
            go_ret2
            exact ⟨0, 4, rfl, .inr ⟨HS.out, HH.out.1, HH.out.2, 0, 4, .inr ⟨fun h => HYM.out ⟨trivial, h.2⟩, ⟨y, m, d, HV.out.1, HV.out.2.trans HQ.out.1, .inl ⟨by rw [HN.out.2.2.1]; exact HY.out.1, rfl, rfl⟩⟩⟩, .inl ⟨by decide, rfl, rfl⟩⟩, HB2.out.alloc (by omega) _⟩
          · have HYE := Lib.hid (show yearE 1 YY = 0 from yearE_ok (by omega) (by omega) hy1 hy2)
            have hlE : lenE 1 YY MM = 0 := by unfold lenE; rw [HYE.out, if_neg (by simp), Dm.greg12, if_neg (by omega)]
            have HLE := Lib.hid hlE; clear hlE
            refine (year_any _ _ _).mono ?_; rintro e w' ⟨rfl, rfl⟩
            rw [HYE.out]
            have hwr : IntKind.i64.wrap (MM - 1) = MM - 1 := IntWalk.i64_in _ (by omega)
            have hge1 : 0 ≤ MM - 1 := by omega
            have hlt3 : MM - 1 < 12 := by omega
            go_wp2_with fail
            go_region_with (go_at_call 70; refine (Lengths_any _ _ _ (by omega) (by omega) (by omega) (by omega)).mono ?_; rintro e w3 ⟨B, n, cap, rfl, hn, hB1, hB2, hx, hb3⟩; rw [Dm.greg12] at hn; have hcell : w3.cell? ⟨B, MM.toNat - 1, none⟩ = some (.int .i64 L) := (by have := hx (MM.toNat - 1) (by omega); rw [this, show ((MM.toNat - 1 : Nat) : Int) + 1 = MM by omega, HL.out]); have hz3 := (offD hb3).size; simp only [World.size_alloc] at hz3; obtain ⟨q3, p3⟩ := carry (offD hb3) w.heap.size (by simp; omega); have q3' : ∀ o, w3.cell? ⟨w.heap.size, o, none⟩ = w2.cell? ⟨w.heap.size, o, none⟩ := (fun o => (q3 o).trans (cell_alloc hs2)); obtain ⟨q5, p5⟩ := carry (offD hb3) w2.heap.size (by simp); have hs3 : w.heap.size < w3.heap.size := (by omega); have hs5 : w2.heap.size < w3.heap.size := (by omega); have HB3 := Lib.hid (thenB HB2.out (offA (offD hb3))); have hlt1 : MM - 1 < (n : Int) := (by omega); have hlt2 : MM.toNat - 1 < n := (by omega); have hm2 : MM ≤ (n : Int) := (by omega); have hn12 : n = 12 := (by omega); clear hb3 hx q3 hB1)
            all_goals
              clear hwr hge1 hlt3 hlt1 hlt2 hm2 hn hn12
              by_cases hdl : d ≤ L
              · have hcl : Dm.clipD YY MM d = d := by unfold Dm.clipD; rw [HL.out, if_pos hdl]
                have hmd : Dm.monDay y m d (12 * 0 + M) = Dm.dayOf 1 YY MM d := by unfold Dm.monDay; rw [HN.out.2.2.1, HN.out.2.2.2, hcl]
                have hv := Dm.mon_valid (y := y) (m := m) (d := d) (k := 12 * 0 + M) (by rw [HN.out.2.2.1]; exact hy1) (by rw [HN.out.2.2.1]; exact hy2) HV.out.1.2.2.2.2.1
                rw [HN.out.2.2.1, HN.out.2.2.2, hcl] at hv
                have hday := dayE_ok HLE.out hv.2.2.2.2.1 hv.2.2.2.2.2
                have HD : Hid (dayE 1 YY MM d = rangeE (Dm.monDay y m d (12 * 0 + M)) ∧ dayR 1 YY MM d = rangeR (Dm.monDay y m d (12 * 0 + M))) := Lib.hid (by rw [hmd]; exact hday)
                have HMR : Hid (MonR (t / 86400) (12 * 0 + M) (rangeR (Dm.monDay y m d (12 * 0 + M))) (rangeE (Dm.monDay y m d (12 * 0 + M)))) := Lib.hid ⟨y, m, d, HV.out.1, HV.out.2.trans HQ.out.1, .inr ⟨by rw [HN.out.2.2.1]; exact hy1, by rw [HN.out.2.2.1]; exact hy2, rfl, rfl⟩⟩
                clear hcl hmd hv hday
                go_wp2_with fail
                refine (refDay_any _ _ _ _ _).mono ?_; rintro en w4 ⟨rfl, hb4⟩
                rw [HD.out.1, HD.out.2]
                have hz4 := hb4.size
                obtain ⟨q4, p4⟩ := carry hb4 w.heap.size hs3
                have hs4 : w.heap.size < w4.heap.size := by omega
                have HB4 := Lib.hid (thenB HB3.out hb4); clear hb4
                obtain ⟨⟨c1, c2⟩, ⟨d1, d2⟩, ⟨e1, e2⟩, hq, hts⟩ := HWDS.out
                clear hL hz3 hz2 hs5
                obtain ⟨z, hz0⟩ : ∃ z, rangeE (Dm.monDay y m d (12 * 0 + M)) = z := ⟨_, rfl⟩
                obtain ⟨q, hq0⟩ : ∃ q, rangeR (Dm.monDay y m d (12 * 0 + M)) = q := ⟨_, rfl⟩
                have hm := HMR.out
                rw [hz0, hq0] at hm ⊢
                clear hz0 hq0 HD
                by_cases hz : z = 0
                · subst hz
                  have hq2 := hm.in
                  have HMK : ∀ r x, AddF q S0 W D S r x → AddR t 0 M W D S r x := fun r x hf => .inr ⟨HS.out, HH.out.1, HH.out.2, q, 0, .inr ⟨fun h => HYM.out ⟨trivial, h.2⟩, hm⟩, .inr ⟨rfl, by rw [← HQ.out.2]; exact hf⟩⟩
                  rcases (show (q + 7 * W + D < -4000000 ∨ 4000000 < q + 7 * W + D) ∨ (-4000000 ≤ q + 7 * W + D ∧ q + 7 * W + D ≤ 4000000) by omega) with g | ⟨g1, g2⟩
                  · have HG := Lib.hid (And.intro g (range_out g)); clear g
                    go_wp2_with fail
                    refine (there_r _ _).mono ?_; rintro e w' ⟨rfl, rfl⟩
                    rw [HG.out.2.1, HG.out.2.2]
                    go_wp2_with fail
                    go_ret2
                    exact ⟨0, 4, rfl, HMK _ _ (.inr ⟨fun h => by have h5 := HG.out.1; unfold AddOk at h; omega, rfl, rfl⟩), HB4.out⟩
                  · have HG := Lib.hid (range_in g1 g2)
                    have hN : addN q S0 W D S = (q + 7 * W + D) * 86400 + S0 + S := by unfold addN; omega
                    have HN := Lib.hid hN; clear hN
                    rcases loc_ways ((q + 7 * W + D) * 86400 + S0 + S) with h | ⟨h1, h2⟩
                    · have hb : (decide (-345600000000 ≤ (q + 7 * W + D) * 86400 + S0 + S) && decide ((q + 7 * W + D) * 86400 + S0 + S ≤ 345600086399)) = false := by simp; omega
                      have HH2 := Lib.hid h; clear h
                      go_wp2_with fail
                      refine (there_r _ _).mono ?_; rintro e w' ⟨rfl, rfl⟩
                      rw [HG.out.1, HG.out.2]
                      go_wp2_with fail
                      refine (localOK_any _ _ (InI.mk (by omega) (by omega))).mono ?_; rintro e w' ⟨rfl, rfl⟩
                      rw [hb]
                      go_wp2_with fail
                      go_ret2
                      exact ⟨0, 4, rfl, HMK _ _ (.inr ⟨fun h => by have h5 := HH2.out; obtain ⟨_, _, h6, h7⟩ := h; rw [HN.out] at h6 h7; omega, rfl, rfl⟩), HB4.out⟩
                    · have hb : (decide (-345600000000 ≤ (q + 7 * W + D) * 86400 + S0 + S) && decide ((q + 7 * W + D) * 86400 + S0 + S ≤ 345600086399)) = true := by simp; omega
                      go_wp2_with fail
                      refine (there_r _ _).mono ?_; rintro e w' ⟨rfl, rfl⟩
                      rw [HG.out.1, HG.out.2]
                      go_wp2_with fail
                      refine (localOK_any _ _ (InI.mk (by omega) (by omega))).mono ?_; rintro e w' ⟨rfl, rfl⟩
                      rw [hb]
                      go_wp2_with fail
                      go_ret2
                      exact ⟨_, 0, rfl, HMK _ _ (.inl ⟨⟨by omega, by omega, by rw [HN.out]; exact h1, by rw [HN.out]; exact h2⟩, HN.out.symm, rfl⟩), HB4.out⟩
                · have h4 := hm.four hz
                  have HMM := Lib.hid hm; clear hm
                  obtain ⟨rfl, rfl⟩ := h4
                  go_wp2_with fail
                  go_ret2
                  exact ⟨0, 4, rfl, .inr ⟨HS.out, HH.out.1, HH.out.2, 0, 4, .inr ⟨fun h => HYM.out ⟨trivial, h.2⟩, HMM.out⟩, .inl ⟨hz, rfl, rfl⟩⟩, HB4.out⟩
              · have hcl : Dm.clipD YY MM d = L := by unfold Dm.clipD; rw [HL.out, if_neg hdl]
                have hmd : Dm.monDay y m d (12 * 0 + M) = Dm.dayOf 1 YY MM L := by unfold Dm.monDay; rw [HN.out.2.2.1, HN.out.2.2.2, hcl]
                have hv := Dm.mon_valid (y := y) (m := m) (d := d) (k := 12 * 0 + M) (by rw [HN.out.2.2.1]; exact hy1) (by rw [HN.out.2.2.1]; exact hy2) HV.out.1.2.2.2.2.1
                rw [HN.out.2.2.1, HN.out.2.2.2, hcl] at hv
                have hday := dayE_ok HLE.out hv.2.2.2.2.1 hv.2.2.2.2.2
                have HD : Hid (dayE 1 YY MM L = rangeE (Dm.monDay y m d (12 * 0 + M)) ∧ dayR 1 YY MM L = rangeR (Dm.monDay y m d (12 * 0 + M))) := Lib.hid (by rw [hmd]; exact hday)
                have HMR : Hid (MonR (t / 86400) (12 * 0 + M) (rangeR (Dm.monDay y m d (12 * 0 + M))) (rangeE (Dm.monDay y m d (12 * 0 + M)))) := Lib.hid ⟨y, m, d, HV.out.1, HV.out.2.trans HQ.out.1, .inr ⟨by rw [HN.out.2.2.1]; exact hy1, by rw [HN.out.2.2.1]; exact hy2, rfl, rfl⟩⟩
                clear hcl hmd hv hday
                go_wp2_with fail
                refine (refDay_any _ _ _ _ _).mono ?_; rintro en w4 ⟨rfl, hb4⟩
                rw [HD.out.1, HD.out.2]
                have hz4 := hb4.size
                simp only [World.size_setCell] at hz4
                obtain ⟨q4, p4⟩ := carry hb4 w.heap.size (by simp; omega)
                have q4' : ∀ o, w4.cell? ⟨w.heap.size, o, none⟩ = w3.cell? ⟨w.heap.size, o, none⟩ := fun o => (q4 o).trans (cell_set (by simp; omega))
                clear q4
                have hs4 : w.heap.size < w4.heap.size := by omega
                have HB4 := Lib.hid (thenB (HB3.out.setCell (by simp; omega) _) hb4); clear hb4
                obtain ⟨⟨c1, c2⟩, ⟨d1, d2⟩, ⟨e1, e2⟩, hq, hts⟩ := HWDS.out
                clear hL hz3 hz2 hs5
                obtain ⟨z, hz0⟩ : ∃ z, rangeE (Dm.monDay y m d (12 * 0 + M)) = z := ⟨_, rfl⟩
                obtain ⟨q, hq0⟩ : ∃ q, rangeR (Dm.monDay y m d (12 * 0 + M)) = q := ⟨_, rfl⟩
                have hm := HMR.out
                rw [hz0, hq0] at hm ⊢
                clear hz0 hq0 HD
                by_cases hz : z = 0
                · subst hz
                  have hq2 := hm.in
                  have HMK : ∀ r x, AddF q S0 W D S r x → AddR t 0 M W D S r x := fun r x hf => .inr ⟨HS.out, HH.out.1, HH.out.2, q, 0, .inr ⟨fun h => HYM.out ⟨trivial, h.2⟩, hm⟩, .inr ⟨rfl, by rw [← HQ.out.2]; exact hf⟩⟩
                  rcases (show (q + 7 * W + D < -4000000 ∨ 4000000 < q + 7 * W + D) ∨ (-4000000 ≤ q + 7 * W + D ∧ q + 7 * W + D ≤ 4000000) by omega) with g | ⟨g1, g2⟩
                  · have HG := Lib.hid (And.intro g (range_out g)); clear g
                    go_wp2_with fail
                    refine (there_r _ _).mono ?_; rintro e w' ⟨rfl, rfl⟩
                    rw [HG.out.2.1, HG.out.2.2]
                    go_wp2_with fail
                    go_ret2
                    exact ⟨0, 4, rfl, HMK _ _ (.inr ⟨fun h => by have h5 := HG.out.1; unfold AddOk at h; omega, rfl, rfl⟩), HB4.out⟩
                  · have HG := Lib.hid (range_in g1 g2)
                    have hN : addN q S0 W D S = (q + 7 * W + D) * 86400 + S0 + S := by unfold addN; omega
                    have HN := Lib.hid hN; clear hN
                    rcases loc_ways ((q + 7 * W + D) * 86400 + S0 + S) with h | ⟨h1, h2⟩
                    · have hb : (decide (-345600000000 ≤ (q + 7 * W + D) * 86400 + S0 + S) && decide ((q + 7 * W + D) * 86400 + S0 + S ≤ 345600086399)) = false := by simp; omega
                      have HH2 := Lib.hid h; clear h
                      go_wp2_with fail
                      refine (there_r _ _).mono ?_; rintro e w' ⟨rfl, rfl⟩
                      rw [HG.out.1, HG.out.2]
                      go_wp2_with fail
                      refine (localOK_any _ _ (InI.mk (by omega) (by omega))).mono ?_; rintro e w' ⟨rfl, rfl⟩
                      rw [hb]
                      go_wp2_with fail
                      go_ret2
                      exact ⟨0, 4, rfl, HMK _ _ (.inr ⟨fun h => by have h5 := HH2.out; obtain ⟨_, _, h6, h7⟩ := h; rw [HN.out] at h6 h7; omega, rfl, rfl⟩), HB4.out⟩
                    · have hb : (decide (-345600000000 ≤ (q + 7 * W + D) * 86400 + S0 + S) && decide ((q + 7 * W + D) * 86400 + S0 + S ≤ 345600086399)) = true := by simp; omega
                      go_wp2_with fail
                      refine (there_r _ _).mono ?_; rintro e w' ⟨rfl, rfl⟩
                      rw [HG.out.1, HG.out.2]
                      go_wp2_with fail
                      refine (localOK_any _ _ (InI.mk (by omega) (by omega))).mono ?_; rintro e w' ⟨rfl, rfl⟩
                      rw [hb]
                      go_wp2_with fail
                      go_ret2
                      exact ⟨_, 0, rfl, HMK _ _ (.inl ⟨⟨by omega, by omega, by rw [HN.out]; exact h1, by rw [HN.out]; exact h2⟩, HN.out.symm, rfl⟩), HB4.out⟩
                · have h4 := hm.four hz
                  have HMM := Lib.hid hm; clear hm
                  obtain ⟨rfl, rfl⟩ := h4
                  go_wp2_with fail
                  go_ret2
                  exact ⟨0, 4, rfl, .inr ⟨HS.out, HH.out.1, HH.out.2, 0, 4, .inr ⟨fun h => HYM.out ⟨trivial, h.2⟩, HMM.out⟩, .inl ⟨hz, rfl, rfl⟩⟩, HB4.out⟩
  · have HS := Lib.hid hs; clear hs
    go_wp2_with fail
    go_ret2
    exact ⟨0, 4, rfl, .inl ⟨.inl HS.out, rfl, rfl⟩, HB1.out⟩
end Go.Proofs.YtkfpnlenmdlmjaaGreatDoor
