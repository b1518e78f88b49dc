/- What is wrong with hours of work: the document's. work.Holidays; the document's goes. -/
import Derived.Test.YtbgcccfgcdkmdaaGreatDoorWrkC
import Derived.Test.YtbgcccfgcdkmdaaGreatDoorUG9
namespace Go.Proofs.YtbgcccfgcdkmdaaGreatDoor
open Go.RowKit Wrk
set_option maxRecDepth 100000 in
set_option maxHeartbeats 16000000 in
theorem hoursCheck_any (B : Nat) (H : Hrs) (s : Nat → Value) (vh : Value) (w : World) (hR : HrsR B w s vh H) (hB : B ≤ w.heap.size) : Calls Tryz.prog 11 #[hoursV s vh] w fun e w' => e = .returned (.int .i64 (chk H)) ∧ Below w.heap.size w w' := by
  obtain ⟨E, hE0⟩ : ∃ E, chk H = E := ⟨_, rfl⟩
  rw [hE0]
  have HE := Lib.hid hE0
  unfold hoursV
  obtain ⟨wB, hwB⟩ : ∃ W, w.alloc (.cells #[s 0, s 1, s 2, s 3, s 4, s 5, s 6, vh] 26) = W := ⟨_, rfl⟩
  have hb0 : Below w.heap.size w wB := by rw [← hwB]; exact (Below.refl _ _).alloc (Nat.le_refl _) _
  have HB0 := Lib.hid hb0
  have HH := Lib.hid (hR.call (hb0.mono hB))
  have HBB := Lib.hid (show B ≤ wB.heap.size from Nat.le_trans hB hb0.size)
  have HLT := Lib.hid (show w.heap.size < wB.heap.size by rw [← hwB]; simp)
  obtain ⟨oh, ch, rfl⟩ := hR.hols.form
  obtain ⟨nh, hnh⟩ : ∃ n, H.hols.length = n := ⟨_, rfl⟩
  have HNH := Lib.hid hnh
  rw [hnh] at HH hwB ⊢
  have f7 : wB.cell? ⟨w.heap.size, 7, none⟩ = some (.slice oh nh ch) := by rw [← hwB]; simp
  have F7 := Lib.hid f7
  have FW : Hid (∀ k, k < 7 → wB.cell? ⟨w.heap.size, k, none⟩ = some (s k)) := Lib.hid (by
    rw [← hwB]
    exact seven (P := fun k => (w.alloc (.cells #[s 0, s 1, s 2, s 3, s 4, s 5, s 6, .slice oh nh ch] 26)).cell? ⟨w.heap.size, k, none⟩ = some (s k)) (by simp) (by simp) (by simp) (by simp) (by simp) (by simp) (by simp))
  clear hE0 hb0 hR hB hnh f7
  go_enter Tryz.func11, Tryz.ntmps11
  go_upto_region 1 with fail
  clear hwB
  go_wp2_with fail
  go_loopw [3] (fun c wr => ∃ k : Nat, c = .int .i64 (k : Int) ∧ k ≤ 7 ∧ Hid (Below wB.heap.size wB wr) ∧ Hid (wksE H = frm (fun k => wkE (H.week k)) 7 k)) (fun c _ => 7 - (intOf c).toNat)
  case atStart => exact ⟨0, rfl, by omega, Lib.hid (Below.refl _ _), Lib.hid rfl⟩
  case round =>
    obtain ⟨k, rfl, hk, HB, HK⟩ := hrel
    by_cases hk7 : k < 7
    · obtain ⟨L, hL⟩ : ∃ L, H.week k = L := ⟨_, rfl⟩
      have hv := HH.out.week k hk7
      have hc := (HB.out.cell (p := ⟨w.heap.size, k, none⟩) HLT.out).trans (FW.out k hk7)
      rw [hL] at hv
      obtain ⟨oa, cap, e⟩ := hv.form
      obtain ⟨n, hn⟩ : ∃ n, L.length = n := ⟨_, rfl⟩
      rw [hn] at e
      rw [e] at hv hc
      have HV := Lib.hid hv
      have HK2 : Hid (wksE H = if wkE L ≠ 0 then wkE L else frm (fun k => wkE (H.week k)) 7 (k + 1)) := Lib.hid (HK.out.trans (by rw [frm, if_pos hk7]; simp only [hL]))
      have HN := Lib.hid hn
      have q1 : (0 : Int) ≤ (k : Int) := by omega
      have q2 : (k : Int) < 7 := by omega
      clear hL hv e hn HK
      by_cases h60 : 60 < n
      · have hE : E = 6 := by
          have h6 : wkE L = 6 := by unfold wkE; rw [if_pos (by rw [HN.out]; exact h60)]
          rw [← HE.out]; exact chk_week (HK2.out.trans (by rw [h6]; rfl)) (by decide)
        subst hE
        have g1 : (60 : Int) < (n : Int) := by omega
        go_wp2_with fail
        go_ret
        exact ⟨rfl, thenB HB0.out HB.out⟩
      · have g1 : ¬ (60 : Int) < (n : Int) := by omega
        have HL0 : Hid (wkE L = frm (spAt L) n 0) := Lib.hid (by unfold wkE; rw [if_neg (by rw [HN.out]; exact h60), HN.out])
        go_wp2_with fail
        clear hc g1
        obtain ⟨wo, hwo⟩ : ∃ wo : World, wo = wr := ⟨_, rfl⟩
        subst hwo
        go_loopw [5] (fun c wr => ∃ i : Nat, c = .int .i64 (i : Int) ∧ i ≤ n ∧ Hid (Below wB.heap.size wB wr) ∧ Hid (wkE L = frm (spAt L) n i)) (fun c _ => n - (intOf c).toNat)
        case atStart => exact ⟨0, rfl, by omega, HB, HL0⟩
        case round =>
          obtain ⟨i, rfl, hin, HBI, HI⟩ := hrel
          by_cases hi : i < n
          · have hil : i < L.length := by rw [HN.out]; exact hi
            obtain ⟨a, rfl, hab, c0, c1⟩ := (HV.out.call (hBW HBB.out HBI.out)).at hil
            obtain ⟨⟨x1, x2⟩, hx⟩ : ∃ p, L.getD i (0, 0) = p := ⟨_, rfl⟩
            rw [hx] at c0 c1
            simp only at c0 c1
            have HX := Lib.hid hx
            have HI2 : Hid (wkE L = if spAt L i ≠ 0 then spAt L i else frm (spAt L) n (i + 1)) := Lib.hid (HI.out.trans (by rw [frm, if_pos hi]))
            have k1 : (0 : Int) ≤ (i : Int) := by omega
            have k2 : (i : Int) < (n : Int) := by omega
            have r0 := cell_regrown c0
            have r1 := cell_regrown c1
            clear hx HI
            go_upto_region 10 with fail
            go_cut [52] from 26 to 51 (fun q wx => q = .bool (decide (x1 < 0 ∨ 1440 < x2 ∨ x2 ≤ x1)) ∧ Hid (Below wB.heap.size wB wx))
            case first =>
              by_cases b1 : x1 < 0
              all_goals by_cases b2 : 1440 < x2
              all_goals
                refine wp_region_below (by kernel_rfl) (by kernel_rfl) ?_
                repeat (go_big_quiet_step (fail))
                refine wpQuiet_nil ?_
                intro w1 hb1
                have HB1 := Lib.hid (thenB HBI.out hb1)
                clear hb1
                go_wp2_with fail
                go_meet
                exact ⟨bv (by simp <;> omega), HB1⟩
            case rest =>
              obtain ⟨rfl, HA⟩ := hcut
              clear c0 c1 r0 r1
              by_cases h1 : x1 < 0 ∨ 1440 < x2 ∨ x2 ≤ x1
              · rw [decide_eq_true h1]
                have hE : E = 1 := by
                  have h6 : spAt L i = 1 := by unfold spAt; rw [HX.out]; exact if_pos h1
                  have h7 : wkE L = 1 := HI2.out.trans (by rw [h6]; rfl)
                  rw [← HE.out]; exact chk_week (HK2.out.trans (by rw [h7]; rfl)) (by decide)
                subst hE
                go_wp2_with fail
                go_ret
                exact ⟨rfl, thenB HB0.out HA.out⟩
              · rw [decide_eq_false h1]
                go_upto_region 12 with fail
                cases i with
                | zero =>
                  have HI3 : Hid (wkE L = frm (spAt L) n 1) := by
                    refine Lib.hid (HI2.out.trans ?_)
                    have h6 : spAt L 0 = 0 := by unfold spAt; rw [HX.out, if_neg h1, if_neg (by omega)]
                    rw [h6]; rfl
                  go_cut [68] from 53 to 67 (fun q wx => q = .bool false ∧ Hid (Below wB.heap.size wB wx))
                  case first =>
                    refine wp_region_below (by kernel_rfl) (by kernel_rfl) ?_
                    repeat (go_big_quiet_step (fail))
                    refine wpQuiet_nil ?_
                    intro w1 hb1
                    have HB1 := Lib.hid (thenB HA.out hb1)
                    clear hb1
                    go_wp2_with fail
                    go_meet
                    exact ⟨rfl, HB1⟩
                  case rest =>
                    obtain ⟨rfl, HB1⟩ := hcut
                    go_wp2_with fail
                    go_roundw
                    case rel => exact ⟨1, by go_num, by omega, HB1, HI3⟩
                    case measure => simp [intOf]; omega
                | succ j =>
                  have HI3 : Hid (wkE L = if (x1 ≤ (L.getD j (0, 0)).2) then 7 else frm (spAt L) n (j + 2)) := by
                    refine Lib.hid (HI2.out.trans ?_)
                    have h6 : spAt L (j + 1) = if x1 ≤ (L.getD j (0, 0)).2 then 7 else 0 := by
                      unfold spAt; rw [HX.out, if_neg h1, Nat.add_sub_cancel]
                      by_cases h8 : x1 ≤ (L.getD j (0, 0)).2
                      · rw [if_pos ⟨by omega, h8⟩, if_pos h8]
                      · rw [if_neg (fun e => h8 e.2), if_neg h8]
                    rw [h6]
                    by_cases h8 : x1 ≤ (L.getD j (0, 0)).2
                    · rw [if_pos h8, if_pos h8]; rfl
                    · rw [if_neg h8, if_neg h8]; rfl
                  obtain ⟨b, hb, -, -, d1⟩ := (HV.out.call (hBW HBB.out HA.out)).at (i := j) (by rw [HN.out]; omega)
                  injection hb with hb
                  subst hb
                  obtain ⟨b, hb, -, d0, -⟩ := (HV.out.call (hBW HBB.out HA.out)).at (i := j + 1) (by rw [HN.out]; omega)
                  injection hb with hb
                  subst hb
                  rw [HX.out] at d0
                  simp only at d0
                  obtain ⟨y, hy⟩ : ∃ y, (L.getD j (0, 0)).2 = y := ⟨_, rfl⟩
                  rw [hy] at d1 HI3
                  have r0 := cell_regrown d0
                  have r1 := cell_regrown d1
                  have k3 : (0 : Int) ≤ (j : Int) := by omega
                  have k4 : (j : Int) < (n : Int) := by omega
                  clear hy d0 d1 HI2
                  go_cut [68] from 53 to 67 (fun q wx => q = .bool (decide (x1 ≤ y)) ∧ Hid (Below wB.heap.size wB wx))
                  case first =>
                    refine wp_region_below (by kernel_rfl) (by kernel_rfl) ?_
                    repeat (go_big_quiet_step (fail))
                    refine wpQuiet_nil ?_
                    intro w1 hb1
                    have HB1 := Lib.hid (thenB HA.out hb1)
                    clear hb1
                    go_wp2_with fail
                    go_meet
                    exact ⟨rfl, HB1⟩
                  case rest =>
                    obtain ⟨rfl, HB1⟩ := hcut
                    by_cases h8 : x1 ≤ y
                    · rw [decide_eq_true h8]
                      have hE : E = 7 := by
                        have h7 : wkE L = 7 := HI3.out.trans (if_pos h8)
                        rw [← HE.out]; exact chk_week (HK2.out.trans (by rw [h7]; rfl)) (by decide)
                      subst hE
                      go_wp2_with fail
                      go_ret
                      exact ⟨rfl, thenB HB0.out HB1.out⟩
                    · rw [decide_eq_false h8]
                      go_wp2_with fail
                      go_roundw
                      case rel => exact ⟨j + 2, by go_num, by omega, HB1, Lib.hid (HI3.out.trans (if_neg h8))⟩
                      case measure => simp [intOf]; omega
          · go_wp2_with fail
            have HZ : Hid (wkE L = 0) := Lib.hid (HI.out.trans (frm_end (by omega)))
            go_roundw
            case rel => first | exact ⟨k + 1, by go_num, by omega, HBI, Lib.hid (HK2.out.trans (by rw [HZ.out]; rfl))⟩ | ((repeat apply Exists.intro); exact ⟨⟨k + 1, by go_num, by omega, HBI, Lib.hid (HK2.out.trans (by rw [HZ.out]; rfl))⟩, rfl⟩)
            case measure => simp [intOf]; omega
    · have HO : Hid (hosE H.hols = E) := Lib.hid (by rw [← HE.out]; exact (chk_hols (HK.out.trans (frm_end (by omega)))).symm)
      have f7 := (HB.out.cell (p := ⟨w.heap.size, 7, none⟩) HLT.out).trans F7.out
      clear HK
      by_cases h60 : 60 < nh
      · have hE : E = 6 := by rw [← HO.out]; unfold hosE; rw [if_pos (by rw [HNH.out]; exact h60)]
        subst hE
        have g1 : (60 : Int) < (nh : Int) := by omega
        go_wp2_with fail
        go_ret
        exact ⟨rfl, thenB HB0.out HB.out⟩
      · have g1 : ¬ (60 : Int) < (nh : Int) := by omega
        have HL0 : Hid (E = frm (fun i => hE (H.hols.getD i hol0)) nh 0) := Lib.hid (by rw [← HO.out]; unfold hosE; rw [if_neg (by rw [HNH.out]; exact h60), HNH.out])
        go_wp2_with fail
        clear f7 g1
        obtain ⟨wo, hwo⟩ : ∃ wo : World, wo = wr := ⟨_, rfl⟩
        subst hwo
        go_loopw [76] (fun c wr => ∃ i : Nat, c = .int .i64 (i : Int) ∧ i ≤ nh ∧ Hid (Below wB.heap.size wB wr) ∧ Hid (E = frm (fun i => hE (H.hols.getD i hol0)) nh i)) (fun c _ => nh - (intOf c).toNat)
        case atStart => exact ⟨0, rfl, by omega, HB, HL0⟩
        case round =>
          obtain ⟨i, rfl, hin, HBI, HI⟩ := hrel
          by_cases hi : i < nh
          · obtain ⟨a, rfl, hab, c0, c1, c2, c3, c4, c5, c6, c7, c8, c9⟩ := (HH.out.hols.call (hBW HBB.out HBI.out)).at (i := i) (by rw [HNH.out]; omega)
            have HI2 : Hid (E = if hE (H.hols.getD i hol0) ≠ 0 then hE (H.hols.getD i hol0) else frm (fun i => hE (H.hols.getD i hol0)) nh (i + 1)) := Lib.hid (HI.out.trans (by rw [frm, if_pos hi]))
            obtain ⟨x, hx⟩ : ∃ x, H.hols.getD i hol0 = x := ⟨_, rfl⟩
            rw [hx] at c0 c1 c2 c3 c4 c5 c6 c7 c8 c9 HI2
            have k1 : (0 : Int) ≤ (i : Int) := by omega
            have k2 : (i : Int) < (nh : Int) := by omega
            have CO := Lib.hid fun w0 => holidayCheck_any x w0
            obtain ⟨ki, ca, mo, dy, nn, wd, of, lo, hi, mv⟩ := x
            unfold holV at CO
            simp only at c0 c1 c2 c3 c4 c5 c6 c7 c8 c9 CO
            obtain ⟨R, hR⟩ : ∃ R, hE ⟨ki, ca, mo, dy, nn, wd, of, lo, hi, mv⟩ = R := ⟨_, rfl⟩
            rw [hR] at CO HI2
            clear hx hR HI
            go_upto_region 19 with fail
            obtain ⟨wA, hwA⟩ : ∃ W, wr.alloc (.cells #[.int .i64 ki, .int .i64 ca, .int .i64 mo, .int .i64 dy, .int .i64 nn, .int .i64 wd, .int .i64 of, .int .i64 lo, .int .i64 hi, .int .i64 mv] 59) = W := ⟨_, rfl⟩
            have hA : Below wr.heap.size wr wA := by rw [← hwA]; exact (Below.refl _ _).alloc (Nat.le_refl _) _
            have HA := Lib.hid (thenB HBI.out hA)
            have a0 : wA.cell? ⟨wr.heap.size, 0, none⟩ = some (.int .i64 ki) := by rw [← hwA]; simp
            have a1 : wA.cell? ⟨wr.heap.size, 1, none⟩ = some (.int .i64 ca) := by rw [← hwA]; simp
            have a2 : wA.cell? ⟨wr.heap.size, 2, none⟩ = some (.int .i64 mo) := by rw [← hwA]; simp
            have a3 : wA.cell? ⟨wr.heap.size, 3, none⟩ = some (.int .i64 dy) := by rw [← hwA]; simp
            have a4 : wA.cell? ⟨wr.heap.size, 4, none⟩ = some (.int .i64 nn) := by rw [← hwA]; simp
            have a5 : wA.cell? ⟨wr.heap.size, 5, none⟩ = some (.int .i64 wd) := by rw [← hwA]; simp
            have a6 : wA.cell? ⟨wr.heap.size, 6, none⟩ = some (.int .i64 of) := by rw [← hwA]; simp
            have a7 : wA.cell? ⟨wr.heap.size, 7, none⟩ = some (.int .i64 lo) := by rw [← hwA]; simp
            have a8 : wA.cell? ⟨wr.heap.size, 8, none⟩ = some (.int .i64 hi) := by rw [← hwA]; simp
            have a9 : wA.cell? ⟨wr.heap.size, 9, none⟩ = some (.int .i64 mv) := by rw [← hwA]; simp
            rw [hwA]
            clear hA hwA c0 c1 c2 c3 c4 c5 c6 c7 c8 c9 HBI
            by_cases h0 : R = 0
            · subst h0
              go_wp2_with (go_at_call 29; (with_reducible refine (CO.out _).mono ?_); rintro e w2 ⟨rfl, hb⟩; have HB2 := Lib.hid (thenB HA.out hb); clear hb)
              go_roundw
              case rel => exact ⟨i + 1, by go_num, by omega, HB2, Lib.hid (HI2.out.trans (if_neg (by simp)))⟩
              case measure => simp [intOf]; omega
            · have hE : E = R := HI2.out.trans (if_pos h0)
              subst hE
              have hb0 : (E == 0) = false := beq_eq_false_iff_ne.2 h0
              go_wp2_with (go_at_call 29; (with_reducible refine (CO.out _).mono ?_); rintro e w2 ⟨rfl, hb⟩; have HB2 := Lib.hid (thenB HA.out hb); clear hb)
              go_ret
              exact ⟨rfl, thenB HB0.out HB2.out⟩
          · have hE : E = 0 := HI.out.trans (frm_end (by omega))
            subst hE
            go_wp2_with fail
            go_ret
            exact ⟨rfl, thenB HB0.out HBI.out⟩
end Go.Proofs.YtbgcccfgcdkmdaaGreatDoor
namespace Go.Proofs.YtbgcccfgcdkmdaaGreatDoor
open Go.RowKit Wrk
/-- What work.Holidays answers. -/
def HolOk (H : Hrs) (y : Int) (l : List Int) (x : Int) : Prop :=
  (chk H ≠ 0 ∧ x = chk H ∧ l = []) ∨ (chk H = 0 ∧ (y < 1 ∨ 9999 < y) ∧ x = 4 ∧ l = []) ∨ (chk H = 0 ∧ 1 ≤ y ∧ y ≤ 9999 ∧ x = 0 ∧ Rises l ∧ ∀ t, t ∈ l ↔ HolD H.hols y t)
theorem HolOk.one {H : Hrs} {y : Int} {l l' : List Int} {x x' : Int} (h : HolOk H y l x) (h' : HolOk H y l' x') : l = l' ∧ x = x' := by
  rcases h with ⟨a, b, c⟩ | ⟨a, b, c, d⟩ | ⟨a, b, c, d, e, f⟩ <;> rcases h' with ⟨a', b', c'⟩ | ⟨a', b', c', d'⟩ | ⟨a', b', c', d', e', f'⟩
  · exact ⟨by rw [c, c'], by rw [b, b']⟩
  · exact absurd a' a
  · exact absurd a' a
  · exact absurd a a'
  · exact ⟨by rw [d, d'], by rw [c, c']⟩
  · omega
  · exact absurd a a'
  · omega
  · exact ⟨rises_one e e' fun t => (f t).trans (f' t).symm, by rw [d, d']⟩
def HolPost (H : Hrs) (y : Int) (er : Int → Value) (w : World) (e : Ending) (w' : World) : Prop := ∃ v x, e = .returned (.tuple #[v, er x]) ∧ (∃ l, IntL w' w.heap.size v l ∧ HolOk H y l x) ∧ Below w.heap.size w w'
theorem hours_cells (s : Nat → Value) (vh : Value) (w : World) : ∃ wB, w.alloc (.cells #[s 0, s 1, s 2, s 3, s 4, s 5, s 6, vh] 26) = wB ∧ (Below w.heap.size w wB ∧ w.heap.size < wB.heap.size) ∧ wB.cell? ⟨w.heap.size, 0, none⟩ = some (s 0) ∧ wB.cell? ⟨w.heap.size, 1, none⟩ = some (s 1) ∧ wB.cell? ⟨w.heap.size, 2, none⟩ = some (s 2) ∧ wB.cell? ⟨w.heap.size, 3, none⟩ = some (s 3) ∧ wB.cell? ⟨w.heap.size, 4, none⟩ = some (s 4) ∧ wB.cell? ⟨w.heap.size, 5, none⟩ = some (s 5) ∧ wB.cell? ⟨w.heap.size, 6, none⟩ = some (s 6) ∧ wB.cell? ⟨w.heap.size, 7, none⟩ = some vh :=
  ⟨_, rfl, ⟨(Below.refl _ _).alloc (Nat.le_refl _) _, by simp⟩, by simp, by simp, by simp, by simp, by simp, by simp, by simp, by simp⟩
set_option maxRecDepth 100000 in
set_option maxHeartbeats 16000000 in
theorem Holidays_any (B : Nat) (H : Hrs) (s : Nat → Value) (vh : Value) (y : Int) (w : World) (hr : RomanT w) (hR : HrsR B w s vh H) (hB : B ≤ w.heap.size) : Calls Tryz.prog 25 #[hoursV s vh, .int .i64 y] w (HolPost H y errV w) := by
  obtain ⟨wB, hwB, ⟨hb0, hlt⟩, f0, f1, f2, f3, f4, f5, f6, f7⟩ := hours_cells s vh w
  have HB0 := Lib.hid hb0
  have HLT := Lib.hid hlt
  have HRB := Lib.hid (RomanT.call hr hb0)
  have HH := Lib.hid (hR.call (hb0.mono hB))
  have HBB := Lib.hid (show B ≤ wB.heap.size from Nat.le_trans hB hb0.size)
  have CC := Lib.hid (check_any B H s vh wB HRB.out HH.out HBB.out)
  have HP : Hid (∀ l x v w', IntL w' w.heap.size v l → HolOk H y l x → Below w.heap.size w w' → HolPost H y errV w (.returned (.tuple #[v, errV x])) w') := Lib.hid fun l x v w' h1 h2 h3 => ⟨v, x, rfl, ⟨l, h1, h2⟩, h3⟩
  have CH := Lib.hid fun h1 h2 h3 w0 hb => holidays_any B H s vh y w0 (RomanT.call HRB.out hb) (HH.out.call (hBW HBB.out hb)) (Nat.le_trans HBB.out hb.size) h1 h2 h3
  obtain ⟨E, hE⟩ : ∃ E, chk H = E := ⟨_, rfl⟩
  have HE := Lib.hid hE
  rw [hE] at CC CH
  unfold hoursV at CC CH
  unfold hoursV
  clear hE hb0 hlt hr hR hB
  by_cases h0 : E = 0
  · subst h0
    rw [errV_nil] at CC
    go_enter Tryz.func25, Tryz.ntmps25
    go_upto_region 4 with (go_at_call 28; refine (CC.out).mono ?_; rintro e w2 ⟨rfl, hb2⟩; have HB2 := Lib.hid hb2; clear hb2)
    have HBW := Lib.hid (thenB HB0.out HB2.out)
    have g0 := (HB2.out.cell (p := ⟨w.heap.size, 0, none⟩) HLT.out).trans f0
    have g1 := (HB2.out.cell (p := ⟨w.heap.size, 1, none⟩) HLT.out).trans f1
    have g2 := (HB2.out.cell (p := ⟨w.heap.size, 2, none⟩) HLT.out).trans f2
    have g3 := (HB2.out.cell (p := ⟨w.heap.size, 3, none⟩) HLT.out).trans f3
    have g4 := (HB2.out.cell (p := ⟨w.heap.size, 4, none⟩) HLT.out).trans f4
    have g5 := (HB2.out.cell (p := ⟨w.heap.size, 5, none⟩) HLT.out).trans f5
    have g6 := (HB2.out.cell (p := ⟨w.heap.size, 6, none⟩) HLT.out).trans f6
    have g7 := (HB2.out.cell (p := ⟨w.heap.size, 7, none⟩) HLT.out).trans f7
    clear f0 f1 f2 f3 f4 f5 f6 f7 hwB
    by_cases l1 : y < 1
    · have HO : Hid (HolOk H y [] 4) := Lib.hid (.inr (.inl ⟨HE.out, by omega, rfl, rfl⟩))
      go_wp2_with fail
      go_ret2
      exact HP.out [] 4 _ _ (IntL.nil _ _) HO.out HBW.out
    · by_cases l2 : 9999 < y
      · have HO : Hid (HolOk H y [] 4) := Lib.hid (.inr (.inl ⟨HE.out, by omega, rfl, rfl⟩))
        go_wp2_with fail
        go_ret2
        exact HP.out [] 4 _ _ (IntL.nil _ _) HO.out HBW.out
      · have CH2 := Lib.hid (CH.out trivial (by omega) (by omega) w2 HB2.out)
        have HO : Hid (∀ l, Rises l → (∀ t, t ∈ l ↔ HolD H.hols y t) → HolOk H y l 0) := Lib.hid fun l h1 h2 => .inr (.inr ⟨HE.out, by omega, by omega, rfl, h1, h2⟩)
        go_wp2_with (go_at_call 38; refine (CH2.out).mono ?_; rintro e w3 ⟨v, l, rfl, hv, h1, h2, hb3⟩; have HV := Lib.hid hv; have HO2 := Lib.hid (HO.out l h1 h2); have HB3 := Lib.hid (thenB HBW.out hb3); clear hv h1 h2 hb3)
        go_ret2
        exact HP.out _ 0 _ _ (HV.out.low HBW.out.size) HO2.out HB3.out
  · have HO : Hid (HolOk H y [] E) := Lib.hid (.inl ⟨by rw [HE.out]; exact h0, HE.out.symm, rfl⟩)
    have HX := Lib.hid (errV_hit h0)
    rw [errV_hit h0] at CC
    go_enter Tryz.func25, Tryz.ntmps25
    go_wp2_with (go_at_call 28; refine (CC.out).mono ?_; rintro e w2 ⟨rfl, hb2⟩; have HB2 := Lib.hid hb2; clear hb2)
    go_ret2
    have := HP.out [] E (.slice none 0 0) _ (IntL.nil _ _) HO.out (thenB HB0.out HB2.out)
    rw [HX.out] at this
    exact this
end Go.Proofs.YtbgcccfgcdkmdaaGreatDoor
