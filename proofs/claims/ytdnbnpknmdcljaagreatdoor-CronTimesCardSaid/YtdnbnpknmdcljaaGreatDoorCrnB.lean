/- cron.rises and the document's rising. -/
import Derived.Test.YtdnbnpknmdcljaaGreatDoorCrnA
import Derived.Test.YtdnbnpknmdcljaaGreatDoorQTail
namespace Go.Proofs.YtdnbnpknmdcljaaGreatDoor
open Go.RowKit
set_option maxRecDepth 100000 in
set_option maxHeartbeats 4000000 in
theorem rises_any (v : Value) (l : List Int) (a b : Int) (w : World) (h : IntS w v l) (hl : l.length ≤ 140737488355328) :
    Calls Tryz.prog 28 #[v, .int .i64 a, .int .i64 b] w fun e w' => e = .returned (.bool (risB l a b)) ∧ Below w.heap.size w w' := by
  obtain ⟨oa, cap, rfl, -, -⟩ := id h
  obtain ⟨n, hn⟩ : ∃ n, l.length = n := ⟨_, rfl⟩
  obtain ⟨R, hR⟩ : ∃ R, risB l a b = R := ⟨_, rfl⟩
  rw [hR]
  rw [hn] at h hl ⊢
  have H := Lib.hid h
  have HN := Lib.hid hn
  have HR := Lib.hid hR
  clear h hn hR
  go_enter Tryz.func28, Tryz.ntmps28
  go_wp2_with fail
  go_loopw [11] (fun c wr => ∃ k : Nat, c = .int .i64 (k : Int) ∧ k ≤ n ∧ Hid (∀ j, j < k → RisAt l a b j) ∧ Hid (Below w.heap.size w wr)) (fun c _ => n - (intOf c).toNat)
  case atStart => exact ⟨0, rfl, by omega, Lib.hid fun j hj => absurd hj (Nat.not_lt_zero j), Lib.hid (Below.refl _ _)⟩
  case round =>
    obtain ⟨k, rfl, hk, HK, HB⟩ := hrel
    obtain ⟨wA, rfl⟩ : ∃ wo : World, wo = wr := ⟨_, rfl⟩
    by_cases hkn : k < n
    · have hkl : k < l.length := by rw [HN.out]; exact hkn
      obtain ⟨ad, rfl, hc⟩ := (H.out.call HB.out).at hkl
      have HG : Hid (RisAt l a b k ↔ a ≤ l.getD k 0 ∧ l.getD k 0 ≤ b ∧ (0 < k → l.getD (k - 1) 0 < l.getD k 0)) := Lib.hid Iff.rfl
      have HP : Hid (0 < k → wA.cell? (ad.add (k - 1)) = some (.int .i64 (l.getD (k - 1) 0))) := Lib.hid fun h0 => by
        obtain ⟨ad', e, hc'⟩ := (H.out.call HB.out).at (show k - 1 < l.length by omega)
        cases e
        exact hc'
      have HF : Hid (¬ RisAt l a b k → false = R) := Lib.hid fun h => by rw [← HR.out, ris_false hkl h]
      have HT : Hid (RisAt l a b k → ∀ j, j < k + 1 → RisAt l a b j) := Lib.hid fun h j hj => by
        rcases Nat.lt_or_ge j k with h1 | h1
        · exact HK.out j h1
        · obtain rfl : j = k := by omega
          exact h
      clear hkl
      obtain ⟨x, hx⟩ : ∃ x, l.getD k 0 = x := ⟨_, rfl⟩
      rw [hx] at hc HG
      clear hx
      by_cases g1 : x < a
      · obtain rfl := HF.out fun h => by have := (HG.out.1 h).1; omega
        have d1 : decide (x < a) = true := decide_eq_true g1
        go_wp2_with fail
        go_ret
        exact ⟨rfl, HB.out⟩
      · have d1 : decide (x < a) = false := decide_eq_false g1
        by_cases g2 : b < x
        · have d2 : decide (b < x) = true := decide_eq_true g2
          obtain rfl := HF.out fun h => by have := (HG.out.1 h).2.1; omega
          go_wp2_with fail
          go_ret
          exact ⟨rfl, HB.out⟩
        · have d2 : decide (b < x) = false := decide_eq_false g2
          by_cases g3 : k = 0
          · subst g3
            have HT := Lib.hid (HT.out (HG.out.2 ⟨by omega, by omega, fun h => absurd h (Nat.lt_irrefl 0)⟩))
            have hc0 : wA.cell? ad = some (.int .i64 x) := by have h := hc; simp only [Addr.add, Nat.add_zero] at h; exact h
            go_wp2_with fail
            go_roundw
            case rel => exact ⟨1, by go_num, by omega, HT, HB⟩
            case measure => simp [intOf]; omega
          · have hp := HP.out (by omega)
            obtain ⟨y, hy⟩ : ∃ y, l.getD (k - 1) 0 = y := ⟨_, rfl⟩
            rw [hy] at hp HG
            clear hy
            obtain ⟨q, hq⟩ : ∃ q, k = q + 1 := ⟨k - 1, by omega⟩
            have hk0 : 0 < k := by omega
            have hq1 : k - 1 = q := by omega
            have d3 : decide ((0 : Int) < (k : Int)) = true := decide_eq_true (by omega)
            have e1 : (k : Int) - 1 = (q : Int) := by omega
            have e2 : IntKind.i64.wrap ((k : Int) - 1) = (q : Int) := by rw [e1]; exact IntWalk.i64_in _ (by omega)
            have e3 : (q : Int) < (n : Int) := by omega
            rw [hq1] at hp
            clear hq hq1
            by_cases g4 : x ≤ y
            · have d4 : decide (x ≤ y) = true := decide_eq_true g4
              obtain rfl := HF.out fun h => by have := (HG.out.1 h).2.2 (by omega); omega
              go_wp2_with fail
              go_ret
              exact ⟨rfl, HB.out⟩
            · have d4 : decide (x ≤ y) = false := decide_eq_false g4
              have HT := Lib.hid (HT.out (HG.out.2 ⟨by omega, by omega, fun _ => by omega⟩))
              go_wp2_with fail
              go_roundw
              case rel => exact ⟨k + 1, by go_num, by omega, HT, HB⟩
              case measure => simp [intOf]; omega
    · obtain rfl : k = n := by omega
      have hE : true = R := by rw [← HR.out, ris_true fun j hj => HK.out j (by rw [HN.out] at hj; exact hj)]
      subst hE
      go_wp2_with fail
      go_ret
      exact ⟨rfl, HB.out⟩
set_option maxRecDepth 100000 in
set_option maxHeartbeats 4000000 in
theorem rising_any (v : Value) (l : List Int) (a b : Int) (w : World) (h : IntS w v l) (hl : l.length ≤ 140737488355328) :
    Calls Tryz.prog 21 #[v, .int .i64 a, .int .i64 b] w fun e w' => e = .returned (.bool (risB l a b)) ∧ Below w.heap.size w w' := by
  obtain ⟨oa, cap, rfl, -, -⟩ := id h
  obtain ⟨n, hn⟩ : ∃ n, l.length = n := ⟨_, rfl⟩
  obtain ⟨R, hR⟩ : ∃ R, risB l a b = R := ⟨_, rfl⟩
  rw [hR]
  rw [hn] at h hl ⊢
  have H := Lib.hid h
  have HN := Lib.hid hn
  have HR := Lib.hid hR
  clear h hn hR
  go_enter Tryz.func21, Tryz.ntmps21
  go_wp2_with fail
  go_loopw [7] (fun c wr => ∃ k : Nat, c = .int .i64 (k : Int) ∧ k ≤ n ∧ Hid (∀ j, j < k → RisAt l a b j) ∧ Hid (Below w.heap.size w wr)) (fun c _ => n - (intOf c).toNat)
  case atStart => exact ⟨0, rfl, by omega, Lib.hid fun j hj => absurd hj (Nat.not_lt_zero j), Lib.hid (Below.refl _ _)⟩
  case round =>
    obtain ⟨k, rfl, hk, HK, HB⟩ := hrel
    obtain ⟨wA, rfl⟩ : ∃ wo : World, wo = wr := ⟨_, rfl⟩
    by_cases hkn : k < n
    · have hkl : k < l.length := by rw [HN.out]; exact hkn
      obtain ⟨ad, rfl, hc⟩ := (H.out.call HB.out).at hkl
      have HG : Hid (RisAt l a b k ↔ a ≤ l.getD k 0 ∧ l.getD k 0 ≤ b ∧ (0 < k → l.getD (k - 1) 0 < l.getD k 0)) := Lib.hid Iff.rfl
      have HP : Hid (0 < k → wA.cell? (ad.add (k - 1)) = some (.int .i64 (l.getD (k - 1) 0))) := Lib.hid fun h0 => by
        obtain ⟨ad', e, hc'⟩ := (H.out.call HB.out).at (show k - 1 < l.length by omega)
        cases e
        exact hc'
      have HF : Hid (¬ RisAt l a b k → false = R) := Lib.hid fun h => by rw [← HR.out, ris_false hkl h]
      have HT : Hid (RisAt l a b k → ∀ j, j < k + 1 → RisAt l a b j) := Lib.hid fun h j hj => by
        rcases Nat.lt_or_ge j k with h1 | h1
        · exact HK.out j h1
        · obtain rfl : j = k := by omega
          exact h
      clear hkl
      obtain ⟨x, hx⟩ : ∃ x, l.getD k 0 = x := ⟨_, rfl⟩
      rw [hx] at hc HG
      clear hx
      by_cases g1 : x < a
      · obtain rfl := HF.out fun h => by have := (HG.out.1 h).1; omega
        have d1 : decide (x < a) = true := decide_eq_true g1
        have r1 := cell_regrown hc
        go_wp2_with fail
        refine wp_region_below (by kernel_rfl) (by kernel_rfl) ?_
        repeat (go_big_quiet_step (fail))
        refine wpQuiet_nil ?_
        intro w1 hb1
        have HB := Lib.hid (thenB HB.out hb1)
        clear hb1
        go_wp2_with fail
        go_ret
        exact ⟨rfl, HB.out⟩
      · have d1 : decide (x < a) = false := decide_eq_false g1
        by_cases g2 : b < x
        · have d2 : decide (b < x) = true := decide_eq_true g2
          obtain rfl := HF.out fun h => by have := (HG.out.1 h).2.1; omega
          have r1 := cell_regrown hc
          go_wp2_with fail
          refine wp_region_below (by kernel_rfl) (by kernel_rfl) ?_
          repeat (go_big_quiet_step (fail))
          refine wpQuiet_nil ?_
          intro w1 hb1
          have HB := Lib.hid (thenB HB.out hb1)
          clear hb1
          go_wp2_with fail
          go_ret
          exact ⟨rfl, HB.out⟩
        · have d2 : decide (b < x) = false := decide_eq_false g2
          by_cases g3 : k = 0
          · subst g3
            have HT := Lib.hid (HT.out (HG.out.2 ⟨by omega, by omega, fun h => absurd h (Nat.lt_irrefl 0)⟩))
            have hc0 : wA.cell? ad = some (.int .i64 x) := by have h := hc; simp only [Addr.add, Nat.add_zero] at h; exact h
            have r1 := cell_regrown hc
            have r0 := cell_regrown hc0
            go_wp2_with fail
            refine wp_region_below (by kernel_rfl) (by kernel_rfl) ?_
            repeat (go_big_quiet_step (fail))
            refine wpQuiet_nil ?_
            intro w1 hb1
            have HB := Lib.hid (thenB HB.out hb1)
            clear hb1
            go_wp2_with fail
            go_roundw
            case rel => exact ⟨1, by go_num, by omega, HT, HB⟩
            case measure => simp [intOf]; omega
          · have hp := HP.out (by omega)
            obtain ⟨y, hy⟩ : ∃ y, l.getD (k - 1) 0 = y := ⟨_, rfl⟩
            rw [hy] at hp HG
            clear hy
            obtain ⟨q, hq⟩ : ∃ q, k = q + 1 := ⟨k - 1, by omega⟩
            have hk0 : 0 < k := by omega
            have hq1 : k - 1 = q := by omega
            have d3 : decide ((0 : Int) < (k : Int)) = true := decide_eq_true (by omega)
            have e1 : (k : Int) - 1 = (q : Int) := by omega
            have e2 : IntKind.i64.wrap ((k : Int) - 1) = (q : Int) := by rw [e1]; exact IntWalk.i64_in _ (by omega)
            have e3 : (q : Int) < (n : Int) := by omega
            rw [hq1] at hp
            clear hq hq1
            by_cases g4 : x ≤ y
            · have d4 : decide (x ≤ y) = true := decide_eq_true g4
              obtain rfl := HF.out fun h => by have := (HG.out.1 h).2.2 (by omega); omega
              have r1 := cell_regrown hc
              have r2 := cell_regrown hp
              go_wp2_with fail
              refine wp_region_below (by kernel_rfl) (by kernel_rfl) ?_
              repeat (go_big_quiet_step (fail))
              refine wpQuiet_nil ?_
              intro w1 hb1
              have HB := Lib.hid (thenB HB.out hb1)
              clear hb1
              go_wp2_with fail
              go_ret
              exact ⟨rfl, HB.out⟩
            · have d4 : decide (x ≤ y) = false := decide_eq_false g4
              have HT := Lib.hid (HT.out (HG.out.2 ⟨by omega, by omega, fun _ => by omega⟩))
              have r1 := cell_regrown hc
              have r2 := cell_regrown hp
              go_wp2_with fail
              refine wp_region_below (by kernel_rfl) (by kernel_rfl) ?_
              repeat (go_big_quiet_step (fail))
              refine wpQuiet_nil ?_
              intro w1 hb1
              have HB := Lib.hid (thenB HB.out hb1)
              clear hb1
              go_wp2_with fail
              go_roundw
              case rel => exact ⟨k + 1, by go_num, by omega, HT, HB⟩
              case measure => simp [intOf]; omega
    · obtain rfl : k = n := by omega
      have hE : true = R := by rw [← HR.out, ris_true fun j hj => HK.out j (by rw [HN.out] at hj; exact hj)]
      subst hE
      go_wp2_with fail
      go_ret
      exact ⟨rfl, HB.out⟩
end Go.Proofs.YtdnbnpknmdcljaaGreatDoor
