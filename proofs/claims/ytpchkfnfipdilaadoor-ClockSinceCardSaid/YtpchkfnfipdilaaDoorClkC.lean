/- Adding periods: the program's sums and months. -/
import Derived.Test.YtpchkfnfipdilaaDoorClkA
import Derived.Test.YtpchkfnfipdilaaDoorClkP
namespace Go.Proofs.YtpchkfnfipdilaaDoor
open Go.RowKit
def SumPost (f : Nat → Int) (w : World) (e : Ending) (w' : World) : Prop := ∃ v x, e = .returned (.tuple #[.int .i64 v, errV x]) ∧ (x = 0 ∧ Small f ∨ x = 4 ∧ ¬ Small f) ∧ w = w'
set_option maxRecDepth 100000 in
set_option maxHeartbeats 1000000 in
theorem sum_all5 (f : Nat → Int) (B cap : Nat) (w : World) (hc : ∀ i, i < 5 → w.cell? ⟨B, i, none⟩ = some (.int .i64 (f i))) : Calls Tryd.prog 39 #[.slice (some ⟨B, 0, none⟩) 5 cap] w (SumPost f w) := by
  have HC := Lib.hid hc; clear hc
  go_enter Tryd.func39, Tryd.ntmps39
  go_wp2_with fail
  go_loop [4, 9] (fun n i => ∃ (k : Nat) (s : Int), k ≤ 5 ∧ i = .int .i64 k ∧ n = .int .i64 s ∧ -1000000000000 * k ≤ s ∧ s ≤ 1000000000000 * k ∧ Hid (∀ i, i < k → -1000000000000 ≤ f i ∧ f i ≤ 1000000000000)) (fun _ i => 5 - (intOf i).toNat)
  case atStart => exact ⟨0, 0, by omega, rfl, rfl, by omega, by omega, Lib.hid (fun i hi => absurd hi (Nat.not_lt_zero i))⟩
  case round =>
    obtain ⟨k, s, hk, rfl, rfl, hs1, hs2, HS⟩ := hrel
    by_cases hlt : k < 5
    · have hcell := HC.out k hlt
      obtain ⟨F, hF⟩ : ∃ F, f k = F := ⟨_, rfl⟩
      rw [hF] at hcell
      have HF := Lib.hid hF; clear hF
      rcases (show F < -1000000000000 ∨ (¬ F < -1000000000000 ∧ 1000000000000 < F) ∨ (-1000000000000 ≤ F ∧ F ≤ 1000000000000) by omega) with g | ⟨g1, g⟩ | ⟨g1, g2⟩
      · go_wp2_with fail
        go_ret2
        exact ⟨0, 4, rfl, .inr ⟨rfl, fun h => by have := h k hlt; rw [HF.out] at this; omega⟩, rfl⟩
      · go_wp2_with fail
        go_ret2
        exact ⟨0, 4, rfl, .inr ⟨rfl, fun h => by have := h k hlt; rw [HF.out] at this; omega⟩, rfl⟩
      · have HS2 : Hid (∀ i, i < k + 1 → -1000000000000 ≤ f i ∧ f i ≤ 1000000000000) := by
          refine Lib.hid fun i hi => ?_
          by_cases h : i = k
          · rw [h, HF.out]; exact ⟨g1, g2⟩
          · exact HS.out i (by omega)
        go_wp2_with fail
        go_round
        case rel => exact ⟨k + 1, s + F, by omega, by go_num, rfl, by push_cast; omega, by push_cast; omega, HS2⟩
        case measure => simp [intOf]; omega
    · obtain rfl : k = 5 := by omega
      go_wp2_with fail
      go_ret2
      exact ⟨s, 0, rfl, .inl ⟨rfl, HS.out⟩, rfl⟩
set_option maxRecDepth 100000 in
set_option maxHeartbeats 4000000 in
theorem cmonths_ok (n k : Int) (w : World) (hr : RomanT w) (h1 : -4000000 ≤ n) (h2 : n ≤ 4000000) (h3 : -14000000000000 ≤ k) (h4 : k ≤ 14000000000000) : Calls Tryd.prog 40 #[.int .i64 n, .int .i64 k] w fun e w' => ∃ r x, e = .returned (.tuple #[.int .i64 r, errV x]) ∧ MonR n k r x ∧ Below w.heap.size w w' := by
  have HR := Lib.hid hr; clear hr
  have HE := Lib.hid (ofE_ok (c := 1) (n := n) (by omega) (by omega) h1 h2)
  go_enter Tryd.func40, Tryd.ntmps40
  go_wp2_with fail
  refine (dof_all _ _ _ (by repeat (first | exact HR.out | (with_reducible refine RomanT.alloc ?_ _)))).mono ?_; rintro en w1 ⟨a, y, m, d, rfl, hR, hb1⟩
  rw [HE.out, errV_nil]
  have hv : a = 1 ∧ Dm.Valid 1 y m d ∧ Dm.dayOf 1 y m d = n := by
    rcases hR with ⟨e, _⟩ | ⟨_, ha, _, _, hv, hd⟩
    · exact absurd HE.out e
    · exact ⟨ha, hv, hd⟩
  clear hR
  obtain ⟨rfl, hv, hd⟩ := hv
  have HV := Lib.hid (And.intro hv hd); clear hd
  obtain ⟨y1, y2, m1, m2, d1, d2⟩ := hv
  rw [Dm.greg12] at m2
  have d3 := Dm.greg_len y m m1 m2
  have d4 : d ≤ 31 := by omega
  clear d2 d3
  unfold dateV
  have hz1 := hb1.size
  have HR1 := Lib.hid (RomanT.call HR.out hb1)
  have HB1 := Lib.hid hb1; clear hb1
  have hNM : Dm.monY y m k = (k + (12 * y + m - 1)) / 12 ∧ Dm.monM y m k = (k + (12 * y + m - 1)) % 12 + 1 := by unfold Dm.monY Dm.monM; rw [show 12 * y + m - 1 + k = k + (12 * y + m - 1) by omega]; exact ⟨rfl, rfl⟩
  have hMb := Dm.mon_bd y m k
  have t1 := tmod_fact (k + (12 * y + m - 1)) 12 (by omega)
  by_cases hn : (k + (12 * y + m - 1)).tmod 12 < 0
  · have hT : (k + (12 * y + m - 1)).tmod 12 + 1 + 12 = (k + (12 * y + m - 1)) % 12 + 1 ∧ (k + (12 * y + m - 1) - ((k + (12 * y + m - 1)) % 12 + 1) + 1).tdiv 12 = (k + (12 * y + m - 1)) / 12 := tm_neg hn
    obtain ⟨Y, hY0⟩ : ∃ Y, Dm.monY y m k = Y := ⟨_, rfl⟩
    obtain ⟨M, hM0⟩ : ∃ M, Dm.monM y m k = M := ⟨_, rfl⟩
    rw [hY0, hM0] at hNM hMb
    rw [← hNM.1, ← hNM.2] at hT
    have HN := Lib.hid (And.intro hT (And.intro hY0 hM0)); clear hT hNM hY0 hM0
    have hL := Dm.greg_len Y M hMb.1 hMb.2.1
    obtain ⟨L, hL0⟩ : ∃ L, Dm.length 1 Y M = L := ⟨_, rfl⟩
    rw [hL0] at hL
    have HL := Lib.hid hL0; clear hL0
    have HM := Lib.hid hMb; clear hMb
    go_wp2_with fail
    rw [HN.out.1.1, HN.out.1.2]
    rcases (show (Y < -20000 ∨ 20000 < Y) ∨ (-20000 ≤ Y ∧ Y ≤ 20000) by omega) with hy | ⟨hy1, hy2⟩
    · have hyE : yearE 1 Y = 4 := yearE_range (by omega) (by omega) hy
      have hlE : lenE 1 Y M = 4 := by rw [lenE_bad (by rw [hyE]; decide), hyE]
      have hlR : lenR 1 Y M = 0 := by unfold lenR; rw [hlE, if_neg (by decide)]
      have HE2 := Lib.hid (And.intro hlE hlR); clear hyE hlE hlR
      have HY := Lib.hid hy; clear hy
      refine (length_all _ _ _ _ (HR1.out.alloc _)).mono ?_; rintro en w2 ⟨rfl, hb2⟩
      rw [HE2.out.1, HE2.out.2, errV_hit (show (4 : Int) ≠ 0 by decide)]
      have HB2 := Lib.hid (thenB HB1.out (offA hb2)); clear hb2
      go_wp2_with fail
      go_ret2
      exact ⟨0, 4, rfl, ⟨y, m, d, HV.out.1, HV.out.2, .inl ⟨by rw [HN.out.2.1]; exact HY.out, rfl, rfl⟩⟩, HB2.out⟩
    · have hlE : lenE 1 Y M = 0 := by unfold lenE; rw [yearE_ok (by omega) (by omega) hy1 hy2, if_neg (by simp), Dm.greg12, if_neg (by have := HM.out; omega)]
      have hlR : lenR 1 Y M = L := by unfold lenR; rw [hlE, if_pos rfl]; exact HL.out
      have HE2 := Lib.hid (And.intro hlE hlR); clear hlE hlR
      refine (length_all _ _ _ _ (HR1.out.alloc _)).mono ?_; rintro en w2 ⟨rfl, hb2⟩
      rw [HE2.out.1, HE2.out.2, errV_nil]
      have hz2 := hb2.size
      simp only [World.size_alloc] at hz2
      obtain ⟨q2, p2⟩ := carry hb2 w1.heap.size (by simp)
      have hs2 : w1.heap.size < w2.heap.size := by omega
      have HR2 := Lib.hid (RomanT.call (HR1.out.alloc _) hb2)
      have HB2 := Lib.hid (thenB HB1.out (offA hb2)); clear hb2
      by_cases hdl : d ≤ L
      · have hcl : Dm.clipD Y M d = d := by unfold Dm.clipD; rw [HL.out, if_pos hdl]
        have hmd : Dm.monDay y m d k = Dm.dayOf 1 Y M d := by unfold Dm.monDay; rw [HN.out.2.1, HN.out.2.2, hcl]
        have hv := Dm.mon_valid (y := y) (m := m) (d := d) (k := k) (by rw [HN.out.2.1]; exact hy1) (by rw [HN.out.2.1]; exact hy2) d1
        rw [HN.out.2.1, HN.out.2.2, hcl] at hv
        have hday := dayE_ok HE2.out.1 hv.2.2.2.2.1 hv.2.2.2.2.2
        have HD : Hid (dayE 1 Y M d = rangeE (Dm.monDay y m d k) ∧ dayR 1 Y M d = rangeR (Dm.monDay y m d k)) := Lib.hid (by rw [hmd]; exact hday)
        clear hcl hmd hv hday
        go_wp2_with fail
        refine (day_all _ _ _ _ _ (by have hh := HR1.out.lt; exact fun i hi => (cell_set (by simp; omega)).trans (HR2.out i hi))).mono ?_; rintro en w3 ⟨rfl, hb3⟩
        rw [HD.out.1, HD.out.2]
        have HB3 := Lib.hid (thenB (HB2.out.setCell (by simp; omega) _) hb3); clear hb3
        go_wp2_with fail
        go_ret2
        exact ⟨_, _, rfl, ⟨y, m, d, HV.out.1, HV.out.2, .inr ⟨by rw [HN.out.2.1]; exact hy1, by rw [HN.out.2.1]; exact hy2, rfl, rfl⟩⟩, HB3.out⟩
      · have hcl : Dm.clipD Y M d = L := by unfold Dm.clipD; rw [HL.out, if_neg hdl]
        have hmd : Dm.monDay y m d k = Dm.dayOf 1 Y M L := by unfold Dm.monDay; rw [HN.out.2.1, HN.out.2.2, hcl]
        have hv := Dm.mon_valid (y := y) (m := m) (d := d) (k := k) (by rw [HN.out.2.1]; exact hy1) (by rw [HN.out.2.1]; exact hy2) d1
        rw [HN.out.2.1, HN.out.2.2, hcl] at hv
        have hday := dayE_ok HE2.out.1 hv.2.2.2.2.1 hv.2.2.2.2.2
        have HD : Hid (dayE 1 Y M L = rangeE (Dm.monDay y m d k) ∧ dayR 1 Y M L = rangeR (Dm.monDay y m d k)) := Lib.hid (by rw [hmd]; exact hday)
        clear hcl hmd hv hday
        go_wp2_with fail
        refine (day_all _ _ _ _ _ (by have hh := HR1.out.lt; exact fun i hi => (cell_set (by simp; omega)).trans (HR2.out i hi))).mono ?_; rintro en w3 ⟨rfl, hb3⟩
        rw [HD.out.1, HD.out.2]
        have HB3 := Lib.hid (thenB (HB2.out.setCell (by simp; omega) _) hb3); clear hb3
        go_wp2_with fail
        go_ret2
        exact ⟨_, _, rfl, ⟨y, m, d, HV.out.1, HV.out.2, .inr ⟨by rw [HN.out.2.1]; exact hy1, by rw [HN.out.2.1]; exact hy2, rfl, rfl⟩⟩, HB3.out⟩
  · have hT : (k + (12 * y + m - 1)).tmod 12 + 1 = (k + (12 * y + m - 1)) % 12 + 1 ∧ (k + (12 * y + m - 1) - ((k + (12 * y + m - 1)) % 12 + 1) + 1).tdiv 12 = (k + (12 * y + m - 1)) / 12 := tm_pos hn
    obtain ⟨Y, hY0⟩ : ∃ Y, Dm.monY y m k = Y := ⟨_, rfl⟩
    obtain ⟨M, hM0⟩ : ∃ M, Dm.monM y m k = M := ⟨_, rfl⟩
    rw [hY0, hM0] at hNM hMb
    rw [← hNM.1, ← hNM.2] at hT
    have HN := Lib.hid (And.intro hT (And.intro hY0 hM0)); clear hT hNM hY0 hM0
    have hL := Dm.greg_len Y M hMb.1 hMb.2.1
    obtain ⟨L, hL0⟩ : ∃ L, Dm.length 1 Y M = L := ⟨_, rfl⟩
    rw [hL0] at hL
    have HL := Lib.hid hL0; clear hL0
    have HM := Lib.hid hMb; clear hMb
    go_wp2_with fail
    rw [HN.out.1.1, HN.out.1.2]
    rcases (show (Y < -20000 ∨ 20000 < Y) ∨ (-20000 ≤ Y ∧ Y ≤ 20000) by omega) with hy | ⟨hy1, hy2⟩
    · have hyE : yearE 1 Y = 4 := yearE_range (by omega) (by omega) hy
      have hlE : lenE 1 Y M = 4 := by rw [lenE_bad (by rw [hyE]; decide), hyE]
      have hlR : lenR 1 Y M = 0 := by unfold lenR; rw [hlE, if_neg (by decide)]
      have HE2 := Lib.hid (And.intro hlE hlR); clear hyE hlE hlR
      have HY := Lib.hid hy; clear hy
      refine (length_all _ _ _ _ (HR1.out.alloc _)).mono ?_; rintro en w2 ⟨rfl, hb2⟩
      rw [HE2.out.1, HE2.out.2, errV_hit (show (4 : Int) ≠ 0 by decide)]
      have HB2 := Lib.hid (thenB HB1.out (offA hb2)); clear hb2
      go_wp2_with fail
      go_ret2
      exact ⟨0, 4, rfl, ⟨y, m, d, HV.out.1, HV.out.2, .inl ⟨by rw [HN.out.2.1]; exact HY.out, rfl, rfl⟩⟩, HB2.out⟩
    · have hlE : lenE 1 Y M = 0 := by unfold lenE; rw [yearE_ok (by omega) (by omega) hy1 hy2, if_neg (by simp), Dm.greg12, if_neg (by have := HM.out; omega)]
      have hlR : lenR 1 Y M = L := by unfold lenR; rw [hlE, if_pos rfl]; exact HL.out
      have HE2 := Lib.hid (And.intro hlE hlR); clear hlE hlR
      refine (length_all _ _ _ _ (HR1.out.alloc _)).mono ?_; rintro en w2 ⟨rfl, hb2⟩
      rw [HE2.out.1, HE2.out.2, errV_nil]
      have hz2 := hb2.size
      simp only [World.size_alloc] at hz2
      obtain ⟨q2, p2⟩ := carry hb2 w1.heap.size (by simp)
      have hs2 : w1.heap.size < w2.heap.size := by omega
      have HR2 := Lib.hid (RomanT.call (HR1.out.alloc _) hb2)
      have HB2 := Lib.hid (thenB HB1.out (offA hb2)); clear hb2
      by_cases hdl : d ≤ L
      · have hcl : Dm.clipD Y M d = d := by unfold Dm.clipD; rw [HL.out, if_pos hdl]
        have hmd : Dm.monDay y m d k = Dm.dayOf 1 Y M d := by unfold Dm.monDay; rw [HN.out.2.1, HN.out.2.2, hcl]
        have hv := Dm.mon_valid (y := y) (m := m) (d := d) (k := k) (by rw [HN.out.2.1]; exact hy1) (by rw [HN.out.2.1]; exact hy2) d1
        rw [HN.out.2.1, HN.out.2.2, hcl] at hv
        have hday := dayE_ok HE2.out.1 hv.2.2.2.2.1 hv.2.2.2.2.2
        have HD : Hid (dayE 1 Y M d = rangeE (Dm.monDay y m d k) ∧ dayR 1 Y M d = rangeR (Dm.monDay y m d k)) := Lib.hid (by rw [hmd]; exact hday)
        clear hcl hmd hv hday
        go_wp2_with fail
        refine (day_all _ _ _ _ _ (by have hh := HR1.out.lt; exact fun i hi => (cell_set (by simp; omega)).trans (HR2.out i hi))).mono ?_; rintro en w3 ⟨rfl, hb3⟩
        rw [HD.out.1, HD.out.2]
        have HB3 := Lib.hid (thenB (HB2.out.setCell (by simp; omega) _) hb3); clear hb3
        go_wp2_with fail
        go_ret2
        exact ⟨_, _, rfl, ⟨y, m, d, HV.out.1, HV.out.2, .inr ⟨by rw [HN.out.2.1]; exact hy1, by rw [HN.out.2.1]; exact hy2, rfl, rfl⟩⟩, HB3.out⟩
      · have hcl : Dm.clipD Y M d = L := by unfold Dm.clipD; rw [HL.out, if_neg hdl]
        have hmd : Dm.monDay y m d k = Dm.dayOf 1 Y M L := by unfold Dm.monDay; rw [HN.out.2.1, HN.out.2.2, hcl]
        have hv := Dm.mon_valid (y := y) (m := m) (d := d) (k := k) (by rw [HN.out.2.1]; exact hy1) (by rw [HN.out.2.1]; exact hy2) d1
        rw [HN.out.2.1, HN.out.2.2, hcl] at hv
        have hday := dayE_ok HE2.out.1 hv.2.2.2.2.1 hv.2.2.2.2.2
        have HD : Hid (dayE 1 Y M L = rangeE (Dm.monDay y m d k) ∧ dayR 1 Y M L = rangeR (Dm.monDay y m d k)) := Lib.hid (by rw [hmd]; exact hday)
        clear hcl hmd hv hday
        go_wp2_with fail
        refine (day_all _ _ _ _ _ (by have hh := HR1.out.lt; exact fun i hi => (cell_set (by simp; omega)).trans (HR2.out i hi))).mono ?_; rintro en w3 ⟨rfl, hb3⟩
        rw [HD.out.1, HD.out.2]
        have HB3 := Lib.hid (thenB (HB2.out.setCell (by simp; omega) _) hb3); clear hb3
        go_wp2_with fail
        go_ret2
        exact ⟨_, _, rfl, ⟨y, m, d, HV.out.1, HV.out.2, .inr ⟨by rw [HN.out.2.1]; exact hy1, by rw [HN.out.2.1]; exact hy2, rfl, rfl⟩⟩, HB3.out⟩
end Go.Proofs.YtpchkfnfipdilaaDoor
