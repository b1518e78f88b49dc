/- cron.fits. -/
import Derived.Test.YtdnbnpknmdcljaaGreatDoorCtmD
namespace Go.Proofs.YtdnbnpknmdcljaaGreatDoor
open Go.RowKit
theorem ofR_in {n a y m d : Int} (h : OfR 1 n a y m d) (h1 : -4000000 ≤ n) (h2 : n ≤ 4000000) : a = 1 ∧ Dm.Valid 1 y m d ∧ Dm.dayOf 1 y m d = n := by
  rcases h with ⟨h, _⟩ | ⟨_, rfl, _, _, h3, h4⟩
  · exact absurd (ofE_ok (by decide) (by decide) h1 h2) h
  · exact ⟨rfl, h3, h4⟩
theorem greg_bd {y m d : Int} (h : Dm.Valid 1 y m d) : -20000 ≤ y ∧ y ≤ 20000 ∧ 1 ≤ m ∧ m ≤ 12 ∧ 1 ≤ d ∧ d ≤ 31 := by
  obtain ⟨h1, h2, h3, h4, h5, h6⟩ := h
  rw [Dm.greg12] at h4
  have := (Dm.length_bd 1 y m).2
  exact ⟨h1, h2, h3, h4, h5, by omega⟩
theorem lenR_in {y m : Int} (h1 : -20000 ≤ y) (h2 : y ≤ 20000) (h3 : 1 ≤ m) (h4 : m ≤ 12) : lenE 1 y m = 0 ∧ lenR 1 y m = Dm.length 1 y m := by
  have e : lenE 1 y m = 0 := lenE_ok (yearE_ok (by decide) (by decide) h1 h2) h3 (by rw [Dm.greg12]; exact h4)
  exact ⟨e, by unfold lenR; rw [if_pos e]⟩
/-- What fits answers of a day. -/
def FitS (c : Cron) (n : Int) (w : World) (e : Ending) (w' : World) : Prop := ∃ b, e = .returned (.bool b) ∧ FitP c n b ∧ Below w.heap.size w w'
set_option maxRecDepth 100000 in
set_option maxHeartbeats 8000000 in
theorem fits_any (c : Cron) (v0 v1 v2 v4 v6 v8 v9 v10 : Value) (n : Int) (w : World) (hr : RomanT w) (h : CronR w c v0 v1 v2 v4 v6 v8 v9 v10) (hz : CronZ c) (hg : CronG c) (n1 : -4000000 ≤ n) (n2 : n ≤ 4000000) :
    Calls Tryz.prog 19 #[cronV c v0 v1 v2 v4 v6 v8 v9 v10, .int .i64 n] w (FitS c n w) := by
  have CO : Hid (∀ w0, Below w.heap.size w w0 → Calls Tryz.prog 29 #[.int .i64 1, .int .i64 n] w0 fun e w' => ∃ y m d, e = .returned (.tuple #[.agg #[.int .i64 1, .int .i64 y, .int .i64 m, .int .i64 d], .nilIface]) ∧ Dm.Valid 1 y m d ∧ Dm.dayOf 1 y m d = n ∧ Below w0.heap.size w0 w') := Lib.hid fun w0 hb => (dof_all 1 n w0 (hr.call hb)).mono fun e w' ⟨a, y, m, d, he, hR, hb'⟩ => by
    obtain ⟨rfl, h3, h4⟩ := ofR_in hR n1 n2
    refine ⟨y, m, d, ?_, h3, h4, hb'⟩
    rw [he, ofE_ok (by decide) (by decide) n1 n2]
    rfl
  have CM : Hid (∀ w0 x, Below w.heap.size w w0 → Calls Tryz.prog 18 #[v2, .int .i64 x] w0 fun e w' => e = .returned (.bool (decide (x ∈ c.mo))) ∧ w' = w0) := Lib.hid fun w0 x hb => contains_any v2 c.mo x w0 (h.call hb).mo hz.mo
  have CL : Hid (∀ w0 y m d, Below w.heap.size w w0 → Dm.Valid 1 y m d → Calls Tryz.prog 32 #[.int .i64 1, .int .i64 y, .int .i64 m] w0 fun e w' => e = .returned (.tuple #[.int .i64 (Dm.length 1 y m), .nilIface]) ∧ Below w0.heap.size w0 w') := Lib.hid fun w0 y m d hb hv => by
    obtain ⟨b1, b2, b3, b4, _, _⟩ := greg_bd hv
    obtain ⟨e1, e2⟩ := lenR_in b1 b2 b3 b4
    have := length_all 1 y m w0 (hr.call hb)
    rw [e1, e2] at this
    exact this
  have CMo : Hid (∀ w0 y m d long, Below w.heap.size w w0 → c.any = false → Dm.Valid 1 y m d → Calls Tryz.prog 34 #[cronV c v0 v1 v2 v4 v6 v8 v9 v10, .agg #[.int .i64 1, .int .i64 y, .int .i64 m, .int .i64 d], .int .i64 n, .int .i64 long] w0 fun e w' => e = .returned (.bool (monthB c n d long)) ∧ Below w0.heap.size w0 w') := Lib.hid fun w0 y m d long hb ha hv => by
    obtain ⟨_, _, _, _, b5, b6⟩ := greg_bd hv
    exact month_any c _ _ _ _ _ _ _ _ n y m d long w0 (h.call hb) hz hg ha b5 b6 n1 n2
  have CWe : Hid (∀ w0 y m d long, Below w.heap.size w w0 → Dm.Valid 1 y m d → Calls Tryz.prog 33 #[cronV c v0 v1 v2 v4 v6 v8 v9 v10, .agg #[.int .i64 1, .int .i64 y, .int .i64 m, .int .i64 d], .int .i64 n, .int .i64 long] w0 fun e w' => e = .returned (.bool (c.aw || weekB c n d long)) ∧ Below w0.heap.size w0 w') := Lib.hid fun w0 y m d long hb hv => by
    obtain ⟨_, _, _, _, b5, b6⟩ := greg_bd hv
    exact week_any c _ _ _ _ _ _ _ _ n y m d long w0 (h.call hb) hz b5 b6 n1 n2
  have HF : Hid (∀ y m d b, Dm.Valid 1 y m d → Dm.dayOf 1 y m d = n → b = dayB c n m d (Dm.length 1 y m) → FitP c n b) := Lib.hid fun y m d b h1 h2 h3 => ⟨y, m, d, h1, h2, h3⟩
  have HD : Hid (∀ m d L, dayB c n m d L = (decide (m ∈ c.mo) && (if c.any then c.aw || weekB c n d L else if c.aw then monthB c n d L else monthB c n d L || weekB c n d L))) := Lib.hid fun m d L => rfl
  clear hz hg
  obtain ⟨o0, p0, hv0, -, -⟩ := id h.mi
  obtain ⟨n0, hn0⟩ : ∃ n, c.mi.length = n := ⟨_, rfl⟩
  rw [hn0] at hv0
  subst hv0
  obtain ⟨o1, p1, hv1, -, -⟩ := id h.ho
  obtain ⟨n1, hn1⟩ : ∃ n, c.ho.length = n := ⟨_, rfl⟩
  rw [hn1] at hv1
  subst hv1
  obtain ⟨o2, p2, hv2, -, -⟩ := id h.mo
  obtain ⟨n2, hn2⟩ : ∃ n, c.mo.length = n := ⟨_, rfl⟩
  rw [hn2] at hv2
  subst hv2
  obtain ⟨o4, p4, hv4, -, -⟩ := id h.da
  obtain ⟨n4, hn4⟩ : ∃ n, c.da.length = n := ⟨_, rfl⟩
  rw [hn4] at hv4
  subst hv4
  obtain ⟨o6, p6, hv6, -, -⟩ := id h.ne
  obtain ⟨n6, hn6⟩ : ∃ n, c.ne.length = n := ⟨_, rfl⟩
  rw [hn6] at hv6
  subst hv6
  obtain ⟨o8, p8, hv8, -, -⟩ := id h.wd
  obtain ⟨n8, hn8⟩ : ∃ n, c.wd.length = n := ⟨_, rfl⟩
  rw [hn8] at hv8
  subst hv8
  obtain ⟨o9, p9, hv9, -, -⟩ := id h.lo
  obtain ⟨n9, hn9⟩ : ∃ n, c.lo.length = n := ⟨_, rfl⟩
  rw [hn9] at hv9
  subst hv9
  obtain ⟨o10, p10, hv10, -, -⟩ := id h.nt
  obtain ⟨n10, hn10⟩ : ∃ n, c.nt.length = n := ⟨_, rfl⟩
  rw [hn10] at hv10
  subst hv10
  obtain ⟨A, hA⟩ : ∃ x, c.any = x := ⟨_, rfl⟩
  obtain ⟨La, hLa⟩ : ∃ x, c.la = x := ⟨_, rfl⟩
  obtain ⟨Aw, hAw⟩ : ∃ x, c.aw = x := ⟨_, rfl⟩
  obtain ⟨FP, hFP⟩ : ∃ x, FitP c n = x := ⟨_, rfl⟩
  obtain ⟨MB, hMB⟩ : ∃ x, monthB c n = x := ⟨_, rfl⟩
  obtain ⟨WB, hWB⟩ : ∃ x, weekB c n = x := ⟨_, rfl⟩
  obtain ⟨DB, hDB⟩ : ∃ x, dayB c n = x := ⟨_, rfl⟩
  obtain ⟨mo, hmo⟩ : ∃ x, c.mo = x := ⟨_, rfl⟩
  unfold FitS
  rw [hFP] at HF ⊢
  rw [hMB] at CMo HD
  rw [hWB] at CWe HD
  rw [hDB] at HF HD
  rw [hmo] at CM HD
  rw [hA] at HD CMo
  rw [hAw] at HD CWe
  unfold cronV at CMo CWe ⊢
  rw [hA, hLa, hAw] at CMo CWe ⊢
  clear hA hLa hAw hn0 hn1 hn2 hn4 hn6 hn8 hn9 hn10 h hFP hMB hWB hDB hmo hr
  obtain ⟨wB, hwB⟩ : ∃ x, w.alloc (.cells #[.slice o0 n0 p0, .slice o1 n1 p1, .slice o2 n2 p2, .bool A, .slice o4 n4 p4, .bool La, .slice o6 n6 p6, .bool Aw, .slice o8 n8 p8, .slice o9 n9 p9, .slice o10 n10 p10] 25) = x := ⟨_, rfl⟩
  have HBB : Hid (Below w.heap.size w wB) := Lib.hid (by rw [← hwB]; exact (Below.refl _ _).alloc (Nat.le_refl _) _)
  have hlt : w.heap.size < wB.heap.size := by rw [← hwB]; simp
  have HQ0 : Hid (wB.cell? ⟨w.heap.size, 0, none⟩ = some (.slice o0 n0 p0)) := Lib.hid (by rw [← hwB]; simp)
  have HQ1 : Hid (wB.cell? ⟨w.heap.size, 1, none⟩ = some (.slice o1 n1 p1)) := Lib.hid (by rw [← hwB]; simp)
  have HQ2 : Hid (wB.cell? ⟨w.heap.size, 2, none⟩ = some (.slice o2 n2 p2)) := Lib.hid (by rw [← hwB]; simp)
  have HQ3 : Hid (wB.cell? ⟨w.heap.size, 3, none⟩ = some (.bool A)) := Lib.hid (by rw [← hwB]; simp)
  have HQ4 : Hid (wB.cell? ⟨w.heap.size, 4, none⟩ = some (.slice o4 n4 p4)) := Lib.hid (by rw [← hwB]; simp)
  have HQ5 : Hid (wB.cell? ⟨w.heap.size, 5, none⟩ = some (.bool La)) := Lib.hid (by rw [← hwB]; simp)
  have HQ6 : Hid (wB.cell? ⟨w.heap.size, 6, none⟩ = some (.slice o6 n6 p6)) := Lib.hid (by rw [← hwB]; simp)
  have HQ7 : Hid (wB.cell? ⟨w.heap.size, 7, none⟩ = some (.bool Aw)) := Lib.hid (by rw [← hwB]; simp)
  have HQ8 : Hid (wB.cell? ⟨w.heap.size, 8, none⟩ = some (.slice o8 n8 p8)) := Lib.hid (by rw [← hwB]; simp)
  have HQ9 : Hid (wB.cell? ⟨w.heap.size, 9, none⟩ = some (.slice o9 n9 p9)) := Lib.hid (by rw [← hwB]; simp)
  have HQ10 : Hid (wB.cell? ⟨w.heap.size, 10, none⟩ = some (.slice o10 n10 p10)) := Lib.hid (by rw [← hwB]; simp)
  have HwB := Lib.hid hwB
  clear hwB
  have HB0 := Lib.hid ((Below.refl w.heap.size w).alloc (Nat.le_refl _) (.cells #[.slice o0 n0 p0, .slice o1 n1 p1, .slice o2 n2 p2, .bool A, .slice o4 n4 p4, .bool La, .slice o6 n6 p6, .bool Aw, .slice o8 n8 p8, .slice o9 n9 p9, .slice o10 n10 p10] 25))
  go_enter Tryz.func19, Tryz.ntmps19
  go_upto_region 2 with (go_at_call 29; refine Calls.mono (by with_reducible exact CO.out _ HB0.out) ?_; rintro e w1 ⟨y, m, d, rfl, hv, hd, hb1⟩; rw [HwB.out] at hb1; have HV := Lib.hid hv; have HDy := Lib.hid hd; have HB1 := Lib.hid hb1; clear hv hd hb1)
  obtain ⟨wA, hwA⟩ : ∃ x, w1.alloc (.cells #[.int .i64 1, .int .i64 y, .int .i64 m, .int .i64 d] 48) = x := ⟨_, rfl⟩
  have HA : Hid (Below wB.heap.size wB wA) := Lib.hid (by rw [← hwA]; exact HB1.out.alloc HB1.out.size _)
  have hd0 : wA.cell? ⟨w1.heap.size, 0, none⟩ = some (.int .i64 1) := by rw [← hwA]; simp
  have hd1 : wA.cell? ⟨w1.heap.size, 1, none⟩ = some (.int .i64 y) := by rw [← hwA]; simp
  have hd2 : wA.cell? ⟨w1.heap.size, 2, none⟩ = some (.int .i64 m) := by rw [← hwA]; simp
  have hd3 : wA.cell? ⟨w1.heap.size, 3, none⟩ = some (.int .i64 d) := by rw [← hwA]; simp
  have hl1 : w1.heap.size < wA.heap.size := by rw [← hwA]; simp
  have c2 := (HA.out.cell (p := ⟨w.heap.size, 2, none⟩) hlt).trans HQ2.out
  have HWA := Lib.hid (HBB.out.trans (HA.out.mono HBB.out.size))
  rw [hwA]
  clear hwA HB1
  obtain ⟨D, hD⟩ : ∃ x, w1.heap.size = x := ⟨_, rfl⟩
  rw [hD] at hd0 hd1 hd2 hd3 hl1 ⊢
  obtain ⟨Bm, hBm⟩ : ∃ B, decide (m ∈ mo) = B := ⟨_, rfl⟩
  have CM2 : Hid (Calls Tryz.prog 18 #[.slice o2 n2 p2, .int .i64 m] wA fun e w' => e = .returned (.bool Bm) ∧ w' = wA) := Lib.hid (hBm ▸ CM.out wA m HWA.out)
  have HDm : Hid (∀ d L, DB m d L = (Bm && (if A then Aw || WB d L else if Aw then MB d L else MB d L || WB d L))) := Lib.hid fun d L => by rw [← hBm]; exact HD.out m d L
  clear hD hBm CM HD
  cases Bm with
  | false =>
    have HR : Hid (FP false) := Lib.hid (HF.out y m d false HV.out HDy.out (by rw [HDm.out]; rfl))
    go_wp2_with (go_at_call 18; (with_reducible refine CM2.out.mono ?_); rintro e w2 ⟨rfl, rfl⟩)
    go_ret
    exact ⟨false, rfl, HR.out, HWA.out⟩
  | true =>
    obtain ⟨L, hL⟩ : ∃ L, Dm.length 1 y m = L := ⟨_, rfl⟩
    have CL2 : Hid (Calls Tryz.prog 32 #[.int .i64 1, .int .i64 y, .int .i64 m] wA fun e w' => e = .returned (.tuple #[.int .i64 L, .nilIface]) ∧ Below wA.heap.size wA w') := Lib.hid (hL ▸ CL.out wA y m d HWA.out HV.out)
    obtain ⟨BM, hBM⟩ : ∃ x, MB d L = x := ⟨_, rfl⟩
    obtain ⟨BW, hBW⟩ : ∃ x, WB d L = x := ⟨_, rfl⟩
    have HR : Hid (∀ b, b = (if A then Aw || BW else if Aw then BM else BM || BW) → FP b) := Lib.hid fun b hb => HF.out y m d b HV.out HDy.out (by rw [hL, HDm.out, hBM, hBW, Bool.true_and]; exact hb)
    have CMo2 := Lib.hid fun w0 hb ha => hBM ▸ CMo.out w0 y m d L hb ha HV.out
    have CWe2 := Lib.hid fun w0 hb => hBW ▸ CWe.out w0 y m d L hb HV.out
    clear hL hBM hBW CL CMo CWe HDm HF
    go_upto_region 5 with (first
      | (go_at_call 18; (with_reducible refine CM2.out.mono ?_); rintro e w2 ⟨rfl, rfl⟩)
      | (go_at_call 32; (with_reducible refine CL2.out.mono ?_); rintro e w3 ⟨rfl, hb3⟩; have HB3 := Lib.hid hb3; clear hb3))
    have HW3 := Lib.hid (thenB HWA.out HB3.out)
    have hl3 := Nat.lt_of_lt_of_le hl1 HB3.out.size
    have hw3 := Nat.lt_of_lt_of_le hlt (Nat.le_trans HA.out.size HB3.out.size)
    have k0 := (HB3.out.cell (p := ⟨w.heap.size, 0, none⟩) (Nat.lt_of_lt_of_le hlt HA.out.size)).trans ((HA.out.cell (p := ⟨w.heap.size, 0, none⟩) hlt).trans HQ0.out)
    have k1 := (HB3.out.cell (p := ⟨w.heap.size, 1, none⟩) (Nat.lt_of_lt_of_le hlt HA.out.size)).trans ((HA.out.cell (p := ⟨w.heap.size, 1, none⟩) hlt).trans HQ1.out)
    have k2 := (HB3.out.cell (p := ⟨w.heap.size, 2, none⟩) (Nat.lt_of_lt_of_le hlt HA.out.size)).trans ((HA.out.cell (p := ⟨w.heap.size, 2, none⟩) hlt).trans HQ2.out)
    have k3 := (HB3.out.cell (p := ⟨w.heap.size, 3, none⟩) (Nat.lt_of_lt_of_le hlt HA.out.size)).trans ((HA.out.cell (p := ⟨w.heap.size, 3, none⟩) hlt).trans HQ3.out)
    have k4 := (HB3.out.cell (p := ⟨w.heap.size, 4, none⟩) (Nat.lt_of_lt_of_le hlt HA.out.size)).trans ((HA.out.cell (p := ⟨w.heap.size, 4, none⟩) hlt).trans HQ4.out)
    have k5 := (HB3.out.cell (p := ⟨w.heap.size, 5, none⟩) (Nat.lt_of_lt_of_le hlt HA.out.size)).trans ((HA.out.cell (p := ⟨w.heap.size, 5, none⟩) hlt).trans HQ5.out)
    have k6 := (HB3.out.cell (p := ⟨w.heap.size, 6, none⟩) (Nat.lt_of_lt_of_le hlt HA.out.size)).trans ((HA.out.cell (p := ⟨w.heap.size, 6, none⟩) hlt).trans HQ6.out)
    have k7 := (HB3.out.cell (p := ⟨w.heap.size, 7, none⟩) (Nat.lt_of_lt_of_le hlt HA.out.size)).trans ((HA.out.cell (p := ⟨w.heap.size, 7, none⟩) hlt).trans HQ7.out)
    have k8 := (HB3.out.cell (p := ⟨w.heap.size, 8, none⟩) (Nat.lt_of_lt_of_le hlt HA.out.size)).trans ((HA.out.cell (p := ⟨w.heap.size, 8, none⟩) hlt).trans HQ8.out)
    have k9 := (HB3.out.cell (p := ⟨w.heap.size, 9, none⟩) (Nat.lt_of_lt_of_le hlt HA.out.size)).trans ((HA.out.cell (p := ⟨w.heap.size, 9, none⟩) hlt).trans HQ9.out)
    have k10 := (HB3.out.cell (p := ⟨w.heap.size, 10, none⟩) (Nat.lt_of_lt_of_le hlt HA.out.size)).trans ((HA.out.cell (p := ⟨w.heap.size, 10, none⟩) hlt).trans HQ10.out)
    have e0 := (HB3.out.cell (p := ⟨D, 0, none⟩) hl1).trans hd0
    have e1 := (HB3.out.cell (p := ⟨D, 1, none⟩) hl1).trans hd1
    have e2 := (HB3.out.cell (p := ⟨D, 2, none⟩) hl1).trans hd2
    have e3 := (HB3.out.cell (p := ⟨D, 3, none⟩) hl1).trans hd3
    clear hd0 hd1 hd2 hd3 c2
    cases A with
    | true =>
      go_wp2_with (go_at_call 33; (with_reducible refine (CWe2.out _ HW3.out).mono ?_); rintro e w4 ⟨rfl, hb4⟩; have HB4 := Lib.hid (thenB HW3.out hb4); clear hb4)
      go_ret
      exact ⟨_, rfl, HR.out _ rfl, HB4.out⟩
    | false =>
      cases Aw with
      | true =>
        go_wp2_with (go_at_call 34; (with_reducible refine (CMo2.out _ HW3.out rfl).mono ?_); rintro e w4 ⟨rfl, hb4⟩; have HB4 := Lib.hid (thenB HW3.out hb4); clear hb4)
        go_ret
        exact ⟨_, rfl, HR.out _ rfl, HB4.out⟩
      | false =>
        cases BM with
        | true =>
          go_wp2_with (go_at_call 34; (with_reducible refine (CMo2.out _ HW3.out rfl).mono ?_); rintro e w4 ⟨rfl, hb4⟩; have HB4 := Lib.hid (thenB HW3.out hb4); clear hb4)
          go_ret
          exact ⟨_, rfl, HR.out _ rfl, HB4.out⟩
        | false =>
          go_wp2_with (first
            | (go_at_call 34; (with_reducible refine (CMo2.out _ HW3.out rfl).mono ?_); rintro e w4 ⟨rfl, hb4⟩; have HB4 := Lib.hid (thenB HW3.out hb4); replace k0 := (hb4.cell (p := ⟨w.heap.size, 0, none⟩) hw3).trans k0; replace k1 := (hb4.cell (p := ⟨w.heap.size, 1, none⟩) hw3).trans k1; replace k2 := (hb4.cell (p := ⟨w.heap.size, 2, none⟩) hw3).trans k2; replace k3 := (hb4.cell (p := ⟨w.heap.size, 3, none⟩) hw3).trans k3; replace k4 := (hb4.cell (p := ⟨w.heap.size, 4, none⟩) hw3).trans k4; replace k5 := (hb4.cell (p := ⟨w.heap.size, 5, none⟩) hw3).trans k5; replace k6 := (hb4.cell (p := ⟨w.heap.size, 6, none⟩) hw3).trans k6; replace k7 := (hb4.cell (p := ⟨w.heap.size, 7, none⟩) hw3).trans k7; replace k8 := (hb4.cell (p := ⟨w.heap.size, 8, none⟩) hw3).trans k8; replace k9 := (hb4.cell (p := ⟨w.heap.size, 9, none⟩) hw3).trans k9; replace k10 := (hb4.cell (p := ⟨w.heap.size, 10, none⟩) hw3).trans k10; replace e0 := (hb4.cell (p := ⟨D, 0, none⟩) hl3).trans e0; replace e1 := (hb4.cell (p := ⟨D, 1, none⟩) hl3).trans e1; replace e2 := (hb4.cell (p := ⟨D, 2, none⟩) hl3).trans e2; replace e3 := (hb4.cell (p := ⟨D, 3, none⟩) hl3).trans e3; clear hb4)
            | (go_at_call 33; (with_reducible refine (CWe2.out _ HB4.out).mono ?_); rintro e w5 ⟨rfl, hb5⟩; have HB5 := Lib.hid (thenB HB4.out hb5); clear hb5))
          go_ret
          exact ⟨_, rfl, HR.out _ rfl, HB5.out⟩
end Go.Proofs.YtdnbnpknmdcljaaGreatDoor
