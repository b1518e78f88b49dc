/- What is wrong with a holiday: the program's, the document's. -/
import Derived.Test.YtbgcccfgcdkmdaaGreatDoorWrkA
import Derived.Test.YtbgcccfgcdkmdaaGreatDoorDaysO
import Derived.Test.YtbgcccfgcdkmdaaGreatDoorDaysG
import Derived.Test.YtbgcccfgcdkmdaaGreatDoorQTail
import Derived.Deep.CutRange
namespace Go.Proofs.YtbgcccfgcdkmdaaGreatDoor
open Go.RowKit Wrk
def holV (x : Hol) : Value := .agg #[.int .i64 x.kind, .int .i64 x.cal, .int .i64 x.month, .int .i64 x.day, .int .i64 x.n, .int .i64 x.wday, .int .i64 x.off, .int .i64 x.lo, .int .i64 x.hi, .int .i64 x.moves]
theorem bv {a b : Bool} (h : a = true ↔ b = true) : Value.bool a = Value.bool b := by rw [Bool.eq_iff_iff.2 h]
set_option maxRecDepth 100000 in
set_option maxHeartbeats 16000000 in
theorem holidayCheck_any (x : Hol) (w : World) : Calls Tryz.prog 29 #[holV x] w fun e w' => e = .returned (.int .i64 (hE x)) ∧ Below w.heap.size w w' := by
  obtain ⟨ki, ca, mo, dy, nn, wd, of, lo, hi, mv⟩ := x
  obtain ⟨E, hE0⟩ : ∃ E, hE ⟨ki, ca, mo, dy, nn, wd, of, lo, hi, mv⟩ = E := ⟨_, rfl⟩
  rw [hE0]
  unfold hE at hE0
  simp only at hE0
  have HE := Lib.hid hE0
  unfold holV
  simp only
  obtain ⟨wB, hwB⟩ : ∃ W, w.alloc (.cells #[.int .i64 ki, .int .i64 ca, .int .i64 mo, .int .i64 dy, .int .i64 nn, .int .i64 wd, .int .i64 of, .int .i64 lo, .int .i64 hi, .int .i64 mv] 59) = W := ⟨_, rfl⟩
  have hB : Below w.heap.size w wB := by rw [← hwB]; exact (Below.refl _ _).alloc (Nat.le_refl _) _
  have HB := Lib.hid hB
  have hlt : w.heap.size < wB.heap.size := by rw [← hwB]; simp
  have f0 : wB.cell? ⟨w.heap.size, 0, none⟩ = some (.int .i64 ki) := by rw [← hwB]; simp
  have f1 : wB.cell? ⟨w.heap.size, 1, none⟩ = some (.int .i64 ca) := by rw [← hwB]; simp
  have f2 : wB.cell? ⟨w.heap.size, 2, none⟩ = some (.int .i64 mo) := by rw [← hwB]; simp
  have f3 : wB.cell? ⟨w.heap.size, 3, none⟩ = some (.int .i64 dy) := by rw [← hwB]; simp
  have f4 : wB.cell? ⟨w.heap.size, 4, none⟩ = some (.int .i64 nn) := by rw [← hwB]; simp
  have f5 : wB.cell? ⟨w.heap.size, 5, none⟩ = some (.int .i64 wd) := by rw [← hwB]; simp
  have f6 : wB.cell? ⟨w.heap.size, 6, none⟩ = some (.int .i64 of) := by rw [← hwB]; simp
  have f7 : wB.cell? ⟨w.heap.size, 7, none⟩ = some (.int .i64 lo) := by rw [← hwB]; simp
  have f8 : wB.cell? ⟨w.heap.size, 8, none⟩ = some (.int .i64 hi) := by rw [← hwB]; simp
  have f9 : wB.cell? ⟨w.heap.size, 9, none⟩ = some (.int .i64 mv) := by rw [← hwB]; simp
  clear hE0 hB
  go_enter Tryz.func29, Tryz.ntmps29
  go_upto_region 1 with fail
  clear hwB
  go_cut [0, 40] from 6 to 39 (fun _ q wx => q = .bool (decide (ki < 1 ∨ 4 < ki ∨ mv < 0 ∨ 2 < mv ∨ lo < 1 ∨ 9999 < hi ∨ hi < lo)) ∧ wB = wx)
  case first =>
    go_wp2_with fail
    all_goals go_meet
    all_goals exact ⟨bv (by simp <;> omega), rfl⟩
  case rest =>
    obtain ⟨rfl, rfl⟩ := hcut
    by_cases h1 : ki < 1 ∨ 4 < ki ∨ mv < 0 ∨ 2 < mv ∨ lo < 1 ∨ 9999 < hi ∨ hi < lo
    · rw [decide_eq_true h1]
      have he : E = 1 := by rw [← HE.out, if_pos h1]
      subst he
      go_wp2_with fail
      go_ret
      exact ⟨rfl, HB.out⟩
    · rw [decide_eq_false h1]
      have HE1 := Lib.hid (HE.out.symm.trans (if_neg h1))
      go_upto_region 3 with fail
      go_cut [3, 4, 5] from 41 to 59 (fun p q r wx => p = .bool (decide (ca = 0 ∧ dy = 0)) ∧ q = .bool (decide (nn = 0 ∧ wd = 0)) ∧ r = .bool (decide (of = 0)) ∧ Hid (Below wB.heap.size wB wx))
      case first =>
        have r1 := cell_regrown f1
        have r3 := cell_regrown f3
        have r4 := cell_regrown f4
        have r5 := cell_regrown f5
        have r6 := cell_regrown f6
        by_cases hca : ca = 0
        all_goals by_cases hnn : nn = 0
        all_goals
          first
            | have b1 : (ca == 0) = true := beq_iff_eq.2 hca
            | have b1 : (ca == 0) = false := beq_eq_false_iff_ne.2 hca
          first
            | have b2 : (nn == 0) = true := beq_iff_eq.2 hnn
            | have b2 : (nn == 0) = false := beq_eq_false_iff_ne.2 hnn
          refine wp_region_below (by kernel_rfl) (by kernel_rfl) ?_
          repeat (go_big_quiet_step (fail))
          refine wpQuiet_nil ?_
          intro w1 hb1
          have HB1 := Lib.hid hb1
          clear hb1 r1 r3 r4 r5 r6
          go_wp2_with fail
          go_meet
          exact ⟨bv (by simp [hca]), bv (by simp [hnn]), bv (by simp), HB1⟩
      case rest =>
        obtain ⟨rfl, rfl, rfl, HBC⟩ := hcut
        have HBD := Lib.hid (thenB HB.out HBC.out)
        have hlc := Nat.lt_of_lt_of_le hlt HBC.out.size
        have g0 := (HBC.out.cell (p := ⟨w.heap.size, 0, none⟩) hlt).trans f0
        have g1 := (HBC.out.cell (p := ⟨w.heap.size, 1, none⟩) hlt).trans f1
        have g2 := (HBC.out.cell (p := ⟨w.heap.size, 2, none⟩) hlt).trans f2
        have g3 := (HBC.out.cell (p := ⟨w.heap.size, 3, none⟩) hlt).trans f3
        have g4 := (HBC.out.cell (p := ⟨w.heap.size, 4, none⟩) hlt).trans f4
        have g5 := (HBC.out.cell (p := ⟨w.heap.size, 5, none⟩) hlt).trans f5
        have g6 := (HBC.out.cell (p := ⟨w.heap.size, 6, none⟩) hlt).trans f6
        have g7 := (HBC.out.cell (p := ⟨w.heap.size, 7, none⟩) hlt).trans f7
        have g8 := (HBC.out.cell (p := ⟨w.heap.size, 8, none⟩) hlt).trans f8
        have g9 := (HBC.out.cell (p := ⟨w.heap.size, 9, none⟩) hlt).trans f9
        clear f0 f1 f2 f3 f4 f5 f6 f7 f8 f9 HB HBC hlt
        by_cases hk1 : ki = 1
        · have b1 : (ki == 1) = true := beq_iff_eq.2 hk1
          have HE2 := Lib.hid (HE1.out.trans (if_pos hk1))
          clear hk1
          by_cases hc : ca < 1 ∨ 10 < ca
          · have he : E = 2 := by rw [HE2.out, if_pos hc]
            subst he
            go_wp2_with (go_at_call 44; refine (CalOK_any _ _).mono ?_; rintro e w2 ⟨rfl, rfl⟩; rw [show (decide (1 ≤ ca) && decide (ca ≤ 10)) = false by simp; omega])
            go_ret
            exact ⟨rfl, HBD.out⟩
          · have HE3 := Lib.hid (HE2.out.trans (if_neg hc))
            go_upto_region 10 with (go_at_call 44; refine (CalOK_any _ _).mono ?_; rintro e w2 ⟨rfl, rfl⟩; rw [show (decide (1 ≤ ca) && decide (ca ≤ 10)) = true by simp; omega])
            go_cut [0, 3, 4, 5, 114] from 89 to 113 (fun _ _ _ _ q wx => q = .bool (decide (mo < 1 ∨ 13 < mo ∨ dy < 1 ∨ 31 < dy ∨ nn ≠ 0 ∨ wd ≠ 0 ∨ of ≠ 0)) ∧ wc = wx)
            case first =>
              go_wp2_with fail
              all_goals go_meet
              all_goals exact ⟨bv (by simp <;> omega), rfl⟩
            case rest =>
              obtain ⟨rfl, rfl⟩ := hcut
              by_cases h2 : mo < 1 ∨ 13 < mo ∨ dy < 1 ∨ 31 < dy ∨ nn ≠ 0 ∨ wd ≠ 0 ∨ of ≠ 0
              · rw [decide_eq_true h2]
                have he : E = 1 := by rw [HE3.out, if_pos h2]
                subst he
                go_wp2_with fail
                go_ret
                exact ⟨rfl, HBD.out⟩
              · rw [decide_eq_false h2]
                have he : E = 0 := by rw [HE3.out, if_neg h2]
                subst he
                go_wp2_with fail
                go_ret
                exact ⟨rfl, HBD.out⟩
        · have b1 : (ki == 1) = false := beq_eq_false_iff_ne.2 hk1
          have HE2 := Lib.hid (HE1.out.trans (if_neg hk1))
          clear hk1
          by_cases hk2 : ki = 2
          · have b2 : (ki == 2) = true := beq_iff_eq.2 hk2
            have HE3 := Lib.hid (HE2.out.trans (if_pos hk2))
            clear hk2
            go_upto_region 13 with fail
            go_cut [0, 3, 4, 5, 157] from 117 to 156 (fun _ _ _ _ q wx => q = .bool (decide (mo < 1 ∨ 12 < mo ∨ nn < -5 ∨ 5 < nn ∨ nn = 0 ∨ wd < 1 ∨ 7 < wd ∨ ca ≠ 0 ∨ dy ≠ 0 ∨ of ≠ 0)) ∧ wc = wx)
            case first =>
              go_wp2_with fail
              all_goals go_meet
              all_goals exact ⟨bv (by simp <;> omega), rfl⟩
            case rest =>
              obtain ⟨rfl, rfl⟩ := hcut
              by_cases h2 : mo < 1 ∨ 12 < mo ∨ nn < -5 ∨ 5 < nn ∨ nn = 0 ∨ wd < 1 ∨ 7 < wd ∨ ca ≠ 0 ∨ dy ≠ 0 ∨ of ≠ 0
              · rw [decide_eq_true h2]
                have he : E = 1 := by rw [HE3.out, if_pos h2]
                subst he
                go_wp2_with fail
                go_ret
                exact ⟨rfl, HBD.out⟩
              · rw [decide_eq_false h2]
                have he : E = 0 := by rw [HE3.out, if_neg h2]
                subst he
                go_wp2_with fail
                go_ret
                exact ⟨rfl, HBD.out⟩
          · have b2 : (ki == 2) = false := beq_eq_false_iff_ne.2 hk2
            have HE3 := Lib.hid (HE2.out.trans (if_neg hk2))
            clear hk2
            go_upto_region 5 with fail
            go_cut [0, 3, 4, 5, 82] from 62 to 81 (fun _ _ _ _ q wx => q = .bool (decide (of < -100 ∨ 100 < of ∨ ca ≠ 0 ∨ mo ≠ 0 ∨ dy ≠ 0 ∨ nn ≠ 0 ∨ wd ≠ 0)) ∧ wc = wx)
            case first =>
              go_wp2_with fail
              all_goals go_meet
              all_goals exact ⟨bv (by simp <;> omega), rfl⟩
            case rest =>
              obtain ⟨rfl, rfl⟩ := hcut
              by_cases h2 : of < -100 ∨ 100 < of ∨ ca ≠ 0 ∨ mo ≠ 0 ∨ dy ≠ 0 ∨ nn ≠ 0 ∨ wd ≠ 0
              · rw [decide_eq_true h2]
                have he : E = 1 := by rw [HE3.out, if_pos h2]
                subst he
                go_wp2_with fail
                go_ret
                exact ⟨rfl, HBD.out⟩
              · rw [decide_eq_false h2]
                have he : E = 0 := by rw [HE3.out, if_neg h2]
                subst he
                go_wp2_with fail
                go_ret
                exact ⟨rfl, HBD.out⟩
set_option maxRecDepth 100000 in
set_option maxHeartbeats 16000000 in
theorem holiday_any (x : Hol) (w : World) (hr : RomanT w) : Calls Tryz.prog 43 #[holV x] w fun e w' => e = .returned (errV (hE x)) ∧ Below w.heap.size w w' := by
  obtain ⟨ki, ca, mo, dy, nn, wd, of, lo, hi, mv⟩ := x
  obtain ⟨E, hE0⟩ : ∃ E, hE ⟨ki, ca, mo, dy, nn, wd, of, lo, hi, mv⟩ = E := ⟨_, rfl⟩
  rw [hE0]
  unfold hE at hE0
  simp only at hE0
  have HE := Lib.hid hE0
  unfold holV
  simp only
  obtain ⟨wB, hwB⟩ : ∃ W, w.alloc (.cells #[.int .i64 ki, .int .i64 ca, .int .i64 mo, .int .i64 dy, .int .i64 nn, .int .i64 wd, .int .i64 of, .int .i64 lo, .int .i64 hi, .int .i64 mv] 59) = W := ⟨_, rfl⟩
  have hB : Below w.heap.size w wB := by rw [← hwB]; exact (Below.refl _ _).alloc (Nat.le_refl _) _
  have HB := Lib.hid hB
  have hlt : w.heap.size < wB.heap.size := by rw [← hwB]; simp
  have f0 : wB.cell? ⟨w.heap.size, 0, none⟩ = some (.int .i64 ki) := by rw [← hwB]; simp
  have f1 : wB.cell? ⟨w.heap.size, 1, none⟩ = some (.int .i64 ca) := by rw [← hwB]; simp
  have f2 : wB.cell? ⟨w.heap.size, 2, none⟩ = some (.int .i64 mo) := by rw [← hwB]; simp
  have f3 : wB.cell? ⟨w.heap.size, 3, none⟩ = some (.int .i64 dy) := by rw [← hwB]; simp
  have f4 : wB.cell? ⟨w.heap.size, 4, none⟩ = some (.int .i64 nn) := by rw [← hwB]; simp
  have f5 : wB.cell? ⟨w.heap.size, 5, none⟩ = some (.int .i64 wd) := by rw [← hwB]; simp
  have f6 : wB.cell? ⟨w.heap.size, 6, none⟩ = some (.int .i64 of) := by rw [← hwB]; simp
  have f7 : wB.cell? ⟨w.heap.size, 7, none⟩ = some (.int .i64 lo) := by rw [← hwB]; simp
  have f8 : wB.cell? ⟨w.heap.size, 8, none⟩ = some (.int .i64 hi) := by rw [← hwB]; simp
  have f9 : wB.cell? ⟨w.heap.size, 9, none⟩ = some (.int .i64 mv) := by rw [← hwB]; simp
  clear hE0 hB
  have HLT := Lib.hid hlt
  have HR : Hid (RomanT wB) := Lib.hid (RomanT.call hr HB.out)
  clear hr
  go_enter Tryz.func43, Tryz.ntmps43
  go_upto_region 1 with fail
  clear hwB
  go_cut [0, 40] from 6 to 39 (fun _ q wx => q = .bool (decide (ki < 1 ∨ 4 < ki ∨ mv < 0 ∨ 2 < mv ∨ lo < 1 ∨ 9999 < hi ∨ hi < lo)) ∧ wB = wx)
  case first =>
    go_wp2_with fail
    all_goals go_meet
    all_goals exact ⟨bv (by simp <;> omega), rfl⟩
  case rest =>
    obtain ⟨rfl, rfl⟩ := hcut
    by_cases h1 : ki < 1 ∨ 4 < ki ∨ mv < 0 ∨ 2 < mv ∨ lo < 1 ∨ 9999 < hi ∨ hi < lo
    · rw [decide_eq_true h1]
      have he : E = 1 := by rw [← HE.out, if_pos h1]
      subst he
      go_wp2_with fail
      go_ret
      exact ⟨rfl, HB.out⟩
    · rw [decide_eq_false h1]
      have HE1 := Lib.hid (HE.out.symm.trans (if_neg h1))
      clear h1
      go_upto_region 5 with fail
      obtain ⟨wC, hwC⟩ : ∃ W, wB.alloc (.cells #[.int .i64 0, .int .i64 ca, .int .i64 mo, .int .i64 dy, .int .i64 nn, .int .i64 wd, .int .i64 of, .int .i64 0, .int .i64 0, .int .i64 0] 59) = W := ⟨_, rfl⟩
      have hbC : Below wB.heap.size wB wC := by rw [← hwC]; exact (Below.refl _ _).alloc (Nat.le_refl _) _
      have HBC := Lib.hid (thenB HB.out hbC)
      have HRC := Lib.hid (RomanT.call HR.out hbC)
      replace hlt := HLT.out
      obtain ⟨yb, hyb⟩ : ∃ y, wB.heap.size = y := ⟨_, rfl⟩
      have hy0 : yb < wC.heap.size := by rw [← hwC, ← hyb]; simp
      have hxC : w.heap.size < wC.heap.size := by omega
      have hxy : ¬ w.heap.size = yb := by omega
      have hyx : ¬ yb = w.heap.size := by omega
      have h0 : wC.cell? ⟨yb, 0, none⟩ = some (.int .i64 0) := by rw [← hwC, ← hyb]; simp
      have z0 : wC.frozen? ⟨yb, 0, none⟩ = false := by rw [← hwC, ← hyb]; simp
      have h1 : wC.cell? ⟨yb, 1, none⟩ = some (.int .i64 ca) := by rw [← hwC, ← hyb]; simp
      have z1 : wC.frozen? ⟨yb, 1, none⟩ = false := by rw [← hwC, ← hyb]; simp
      have h2 : wC.cell? ⟨yb, 2, none⟩ = some (.int .i64 mo) := by rw [← hwC, ← hyb]; simp
      have z2 : wC.frozen? ⟨yb, 2, none⟩ = false := by rw [← hwC, ← hyb]; simp
      have h3 : wC.cell? ⟨yb, 3, none⟩ = some (.int .i64 dy) := by rw [← hwC, ← hyb]; simp
      have z3 : wC.frozen? ⟨yb, 3, none⟩ = false := by rw [← hwC, ← hyb]; simp
      have h4 : wC.cell? ⟨yb, 4, none⟩ = some (.int .i64 nn) := by rw [← hwC, ← hyb]; simp
      have z4 : wC.frozen? ⟨yb, 4, none⟩ = false := by rw [← hwC, ← hyb]; simp
      have h5 : wC.cell? ⟨yb, 5, none⟩ = some (.int .i64 wd) := by rw [← hwC, ← hyb]; simp
      have z5 : wC.frozen? ⟨yb, 5, none⟩ = false := by rw [← hwC, ← hyb]; simp
      have h6 : wC.cell? ⟨yb, 6, none⟩ = some (.int .i64 of) := by rw [← hwC, ← hyb]; simp
      have z6 : wC.frozen? ⟨yb, 6, none⟩ = false := by rw [← hwC, ← hyb]; simp
      have h7 : wC.cell? ⟨yb, 7, none⟩ = some (.int .i64 0) := by rw [← hwC, ← hyb]; simp
      have z7 : wC.frozen? ⟨yb, 7, none⟩ = false := by rw [← hwC, ← hyb]; simp
      have h8 : wC.cell? ⟨yb, 8, none⟩ = some (.int .i64 0) := by rw [← hwC, ← hyb]; simp
      have z8 : wC.frozen? ⟨yb, 8, none⟩ = false := by rw [← hwC, ← hyb]; simp
      have h9 : wC.cell? ⟨yb, 9, none⟩ = some (.int .i64 0) := by rw [← hwC, ← hyb]; simp
      have z9 : wC.frozen? ⟨yb, 9, none⟩ = false := by rw [← hwC, ← hyb]; simp
      have g0 := (hbC.cell (p := ⟨w.heap.size, 0, none⟩) hlt).trans f0
      have g1 := (hbC.cell (p := ⟨w.heap.size, 1, none⟩) hlt).trans f1
      have g2 := (hbC.cell (p := ⟨w.heap.size, 2, none⟩) hlt).trans f2
      have g3 := (hbC.cell (p := ⟨w.heap.size, 3, none⟩) hlt).trans f3
      have g4 := (hbC.cell (p := ⟨w.heap.size, 4, none⟩) hlt).trans f4
      have g5 := (hbC.cell (p := ⟨w.heap.size, 5, none⟩) hlt).trans f5
      have g6 := (hbC.cell (p := ⟨w.heap.size, 6, none⟩) hlt).trans f6
      have g7 := (hbC.cell (p := ⟨w.heap.size, 7, none⟩) hlt).trans f7
      have g8 := (hbC.cell (p := ⟨w.heap.size, 8, none⟩) hlt).trans f8
      have g9 := (hbC.cell (p := ⟨w.heap.size, 9, none⟩) hlt).trans f9
      have HYB := Lib.hid (show w.heap.size < yb by omega)
      rw [hwC, hyb]
      clear f0 f1 f2 f3 f4 f5 f6 f7 f8 f9 hbC hwC HB HR hlt hyb
      by_cases hk1 : ki = 1
      · have b1 : (ki == 1) = true := beq_iff_eq.2 hk1
        have HE2 := Lib.hid (HE1.out.trans (if_pos hk1))
        clear hk1
        by_cases hc : ca < 1 ∨ 10 < ca
        · have he : E = 2 := by rw [HE2.out, if_pos hc]
          subst he
          have CO : Hid (∀ w0, RomanT w0 → Calls Tryz.prog 70 #[.int .i64 ca, .int .i64 0] w0 (fun e w' => (∃ pa py pm pd, e = .returned (.tuple #[.agg #[.int .i64 pa, .int .i64 py, .int .i64 pm, .int .i64 pd], .iface 28 (.int .i64 2)])) ∧ Below w0.heap.size w0 w')) := Lib.hid fun w0 h => (dof_all ca 0 w0 h).mono fun e w' ⟨pa, py, pm, pd, h1, _, h2⟩ => ⟨⟨pa, py, pm, pd, by rw [h1, ofE_cal hc]; rfl⟩, h2⟩
          clear hc
          go_wp2_with (go_at_call 70; (with_reducible refine (CO.out _ HRC.out).mono ?_); rintro e w2 ⟨⟨pa, py, pm, pd, rfl⟩, hb⟩; have HB2 := Lib.hid (thenB HBC.out hb); clear hb)
          go_ret
          exact ⟨rfl, thenB HB2.out ((Below.refl _ _).alloc (Nat.le_refl _) _)⟩
        · have HE3 := Lib.hid (HE2.out.trans (if_neg hc))
          have CO : Hid (∀ w0, RomanT w0 → Calls Tryz.prog 70 #[.int .i64 ca, .int .i64 0] w0 (fun e w' => (∃ pa py pm pd, e = .returned (.tuple #[.agg #[.int .i64 pa, .int .i64 py, .int .i64 pm, .int .i64 pd], .nilIface])) ∧ Below w0.heap.size w0 w')) := Lib.hid fun w0 h => (dof_all ca 0 w0 h).mono fun e w' ⟨pa, py, pm, pd, h1, _, h2⟩ => ⟨⟨pa, py, pm, pd, by rw [h1, ofE_ok (by omega) (by omega) (by omega) (by omega)]; rfl⟩, h2⟩
          clear hc
          go_upto_region 13 with (go_at_call 70; (with_reducible refine (CO.out _ HRC.out).mono ?_); rintro e w2 ⟨⟨pa, py, pm, pd, rfl⟩, hb⟩; have HB2 := Lib.hid hb; clear hb)
          obtain ⟨wD, hwD⟩ : ∃ W, w2.alloc (.cells #[.int .i64 pa, .int .i64 py, .int .i64 pm, .int .i64 pd] 89) = W := ⟨_, rfl⟩
          have hbD : Below wC.heap.size wC wD := by rw [← hwD]; exact thenB HB2.out ((Below.refl _ _).alloc (Nat.le_refl _) _)
          have HBD := Lib.hid (thenB HBC.out hbD)
          have hyD := Nat.lt_of_lt_of_le hy0 hbD.size
          have hxD := Nat.lt_of_lt_of_le hxC hbD.size
          replace h0 := (hbD.cell (p := ⟨yb, 0, none⟩) hy0).trans h0
          replace z0 := (hbD.frozen (p := ⟨yb, 0, none⟩) hy0).trans z0
          replace g0 := (hbD.cell (p := ⟨w.heap.size, 0, none⟩) hxC).trans g0
          replace h1 := (hbD.cell (p := ⟨yb, 1, none⟩) hy0).trans h1
          replace z1 := (hbD.frozen (p := ⟨yb, 1, none⟩) hy0).trans z1
          replace g1 := (hbD.cell (p := ⟨w.heap.size, 1, none⟩) hxC).trans g1
          replace h2 := (hbD.cell (p := ⟨yb, 2, none⟩) hy0).trans h2
          replace z2 := (hbD.frozen (p := ⟨yb, 2, none⟩) hy0).trans z2
          replace g2 := (hbD.cell (p := ⟨w.heap.size, 2, none⟩) hxC).trans g2
          replace h3 := (hbD.cell (p := ⟨yb, 3, none⟩) hy0).trans h3
          replace z3 := (hbD.frozen (p := ⟨yb, 3, none⟩) hy0).trans z3
          replace g3 := (hbD.cell (p := ⟨w.heap.size, 3, none⟩) hxC).trans g3
          replace h4 := (hbD.cell (p := ⟨yb, 4, none⟩) hy0).trans h4
          replace z4 := (hbD.frozen (p := ⟨yb, 4, none⟩) hy0).trans z4
          replace g4 := (hbD.cell (p := ⟨w.heap.size, 4, none⟩) hxC).trans g4
          replace h5 := (hbD.cell (p := ⟨yb, 5, none⟩) hy0).trans h5
          replace z5 := (hbD.frozen (p := ⟨yb, 5, none⟩) hy0).trans z5
          replace g5 := (hbD.cell (p := ⟨w.heap.size, 5, none⟩) hxC).trans g5
          replace h6 := (hbD.cell (p := ⟨yb, 6, none⟩) hy0).trans h6
          replace z6 := (hbD.frozen (p := ⟨yb, 6, none⟩) hy0).trans z6
          replace g6 := (hbD.cell (p := ⟨w.heap.size, 6, none⟩) hxC).trans g6
          replace h7 := (hbD.cell (p := ⟨yb, 7, none⟩) hy0).trans h7
          replace z7 := (hbD.frozen (p := ⟨yb, 7, none⟩) hy0).trans z7
          replace g7 := (hbD.cell (p := ⟨w.heap.size, 7, none⟩) hxC).trans g7
          replace h8 := (hbD.cell (p := ⟨yb, 8, none⟩) hy0).trans h8
          replace z8 := (hbD.frozen (p := ⟨yb, 8, none⟩) hy0).trans z8
          replace g8 := (hbD.cell (p := ⟨w.heap.size, 8, none⟩) hxC).trans g8
          replace h9 := (hbD.cell (p := ⟨yb, 9, none⟩) hy0).trans h9
          replace z9 := (hbD.frozen (p := ⟨yb, 9, none⟩) hy0).trans z9
          replace g9 := (hbD.cell (p := ⟨w.heap.size, 9, none⟩) hxC).trans g9
          rw [hwD]
          clear hbD hwD hy0 hxC
          go_cut [0, 42, 87] from 70 to 86 (fun _ _ q wx => q = .bool (decide (mo < 1 ∨ 13 < mo ∨ dy < 1 ∨ 31 < dy)) ∧ wD = wx)
          case first =>
            go_wp2_with fail
            all_goals go_meet
            all_goals exact ⟨bv (by simp <;> omega), rfl⟩
          case rest =>
            obtain ⟨rfl, rfl⟩ := hcut
            by_cases h2 : mo < 1 ∨ 13 < mo ∨ dy < 1 ∨ 31 < dy
            · rw [decide_eq_true h2]
              have he : E = 1 := by rw [HE3.out, if_pos (by omega)]
              subst he
              go_wp2_with fail
              go_ret
              exact ⟨rfl, HBD.out⟩
            · rw [decide_eq_false h2]
              have HN := Lib.hid h2
              clear h2
              have HBF := Lib.hid (((HBD.out.setCell (p := ⟨yb, 1, none⟩) (Nat.le_of_lt HYB.out) (.int .i64 0)).setCell (p := ⟨yb, 2, none⟩) (Nat.le_of_lt HYB.out) (.int .i64 0)).setCell (p := ⟨yb, 3, none⟩) (Nat.le_of_lt HYB.out) (.int .i64 0))
              by_cases hz : nn = 0 ∧ wd = 0 ∧ of = 0
              · have he : E = 0 := by have := HN.out; rw [HE3.out, if_neg (by omega)]
                subst he
                obtain ⟨rfl, rfl, rfl⟩ := hz
                go_wp2_with fail
                all_goals go_ret
                all_goals exact ⟨rfl, HBF.out⟩
              · have he : E = 1 := by rw [HE3.out, if_pos (by omega)]
                subst he
                have HZ := Lib.hid hz
                clear hz
                go_wp2_with fail
                all_goals first
                  | (go_ret; exact ⟨rfl, HBF.out⟩)
                  | exact absurd ⟨by assumption, by assumption, by assumption⟩ HZ.out
      · have b1 : (ki == 1) = false := beq_eq_false_iff_ne.2 hk1
        have HE2 := Lib.hid (HE1.out.trans (if_neg hk1))
        clear hk1
        by_cases hk2 : ki = 2
        · have b2 : (ki == 2) = true := beq_iff_eq.2 hk2
          have HE3 := Lib.hid (HE2.out.trans (if_pos hk2))
          clear hk2
          go_upto_region 17 with fail
          go_cut [0, 42, 126] from 94 to 125 (fun _ _ q wx => q = .bool (decide (mo < 1 ∨ 12 < mo ∨ nn < -5 ∨ 5 < nn ∨ nn = 0 ∨ wd < 1 ∨ 7 < wd)) ∧ wC = wx)
          case first =>
            go_wp2_with fail
            all_goals go_meet
            all_goals exact ⟨bv (by simp <;> omega), rfl⟩
          case rest =>
            obtain ⟨rfl, rfl⟩ := hcut
            by_cases h2 : mo < 1 ∨ 12 < mo ∨ nn < -5 ∨ 5 < nn ∨ nn = 0 ∨ wd < 1 ∨ 7 < wd
            · rw [decide_eq_true h2]
              have he : E = 1 := by rw [HE3.out, if_pos (by omega)]
              subst he
              go_wp2_with fail
              go_ret
              exact ⟨rfl, HBC.out⟩
            · rw [decide_eq_false h2]
              have HN := Lib.hid h2
              clear h2
              have HBF := Lib.hid (((HBC.out.setCell (p := ⟨yb, 2, none⟩) (Nat.le_of_lt HYB.out) (.int .i64 0)).setCell (p := ⟨yb, 4, none⟩) (Nat.le_of_lt HYB.out) (.int .i64 0)).setCell (p := ⟨yb, 5, none⟩) (Nat.le_of_lt HYB.out) (.int .i64 0))
              by_cases hz : ca = 0 ∧ dy = 0 ∧ of = 0
              · have he : E = 0 := by have := HN.out; rw [HE3.out, if_neg (by omega)]
                subst he
                obtain ⟨rfl, rfl, rfl⟩ := hz
                go_wp2_with fail
                all_goals go_ret
                all_goals exact ⟨rfl, HBF.out⟩
              · have he : E = 1 := by rw [HE3.out, if_pos (by omega)]
                subst he
                have HZ := Lib.hid hz
                clear hz
                go_wp2_with fail
                all_goals first
                  | (go_ret; exact ⟨rfl, HBF.out⟩)
                  | exact absurd ⟨by assumption, by assumption, by assumption⟩ HZ.out
        · have b2 : (ki == 2) = false := beq_eq_false_iff_ne.2 hk2
          have HE3 := Lib.hid (HE2.out.trans (if_neg hk2))
          clear hk2
          go_upto_region 6 with fail
          go_cut [0, 42, 56] from 49 to 55 (fun _ _ q wx => q = .bool (decide (of < -100 ∨ 100 < of)) ∧ wC = wx)
          case first =>
            go_wp2_with fail
            all_goals go_meet
            all_goals exact ⟨bv (by simp <;> omega), rfl⟩
          case rest =>
            obtain ⟨rfl, rfl⟩ := hcut
            by_cases h2 : of < -100 ∨ 100 < of
            · rw [decide_eq_true h2]
              have he : E = 1 := by rw [HE3.out, if_pos (by omega)]
              subst he
              go_wp2_with fail
              go_ret
              exact ⟨rfl, HBC.out⟩
            · rw [decide_eq_false h2]
              have HN := Lib.hid h2
              clear h2
              have HBF := Lib.hid (HBC.out.setCell (p := ⟨yb, 6, none⟩) (Nat.le_of_lt HYB.out) (.int .i64 0))
              by_cases hz : ca = 0 ∧ mo = 0 ∧ dy = 0 ∧ nn = 0 ∧ wd = 0
              · have he : E = 0 := by have := HN.out; rw [HE3.out, if_neg (by omega)]
                subst he
                obtain ⟨rfl, rfl, rfl, rfl, rfl⟩ := hz
                go_wp2_with fail
                all_goals go_ret
                all_goals exact ⟨rfl, HBF.out⟩
              · have he : E = 1 := by rw [HE3.out, if_pos (by omega)]
                subst he
                have HZ := Lib.hid hz
                clear hz
                go_wp2_with fail
                all_goals first
                  | (go_ret; exact ⟨rfl, HBF.out⟩)
                  | exact absurd ⟨by assumption, by assumption, by assumption, by assumption, by assumption⟩ HZ.out
end Go.Proofs.YtbgcccfgcdkmdaaGreatDoor
