/- slices.Index, Contains over numbers and over pairs; the document's Member. -/
import Derived.Test.YtdnbnpknmdcljaaGreatDoorCtmA
namespace Go.Proofs.YtdnbnpknmdcljaaGreatDoor
open Go.RowKit
theorem getD_mem {l : List Int} {x : Int} (h : ∀ j, j < l.length → l.getD j 0 ≠ x) : x ∉ l := fun hm => by
  obtain ⟨i, hi, e⟩ := mem_at hm
  exact h i hi e
set_option maxHeartbeats 2000000 in
theorem index_any (v : Value) (l : List Int) (x : Int) (w : World) (h : IntS w v l) (hl : l.length ≤ 140737488355328) :
    Calls Tryz.prog 31 #[v, .int .i64 x] w fun e w' => ∃ i : Int, e = .returned (.int .i64 i) ∧ (0 ≤ i ↔ x ∈ l) ∧ w' = w := by
  obtain ⟨oa, cap, rfl, -, -⟩ := id h
  obtain ⟨n, hn⟩ : ∃ n, l.length = n := ⟨_, rfl⟩
  rw [hn] at h hl ⊢
  have H := Lib.hid h
  have HN := Lib.hid hn
  clear h hn
  go_enter Tryz.func31, Tryz.ntmps31
  go_wp2_with fail
  go_loop [8] (fun c => ∃ k : Nat, c = .int .i64 (k : Int) ∧ k ≤ n ∧ Hid (∀ j, j < k → l.getD j 0 ≠ x)) (fun c => n - (intOf c).toNat)
  case atStart => exact ⟨0, rfl, by omega, Lib.hid fun j hj => by omega⟩
  case round =>
    obtain ⟨k, rfl, hk, HK⟩ := hrel
    by_cases hkn : k < n
    · have hkl : k < l.length := by rw [HN.out]; exact hkn
      obtain ⟨ad, rfl, hc⟩ := H.out.at hkl
      obtain ⟨q, hq⟩ : ∃ q, l.getD k 0 = q := ⟨_, rfl⟩
      rw [hq] at hc
      by_cases hx : x = q
      · have HM : Hid (x ∈ l) := Lib.hid (by rw [hx, ← hq]; exact at_mem hkl)
        have hb : (x == q) = true := by simpa using hx
        clear hx hq hkl
        go_wp2_with fail
        go_ret
        exact ⟨k, rfl, iff_of_true (by omega) HM.out, rfl⟩
      · have HK2 : Hid (∀ j, j < k + 1 → l.getD j 0 ≠ x) := Lib.hid fun j hj => by
          by_cases e : j = k
          · subst e; rw [hq]; exact Ne.symm hx
          · exact HK.out j (by omega)
        have hb : (x == q) = false := by simpa using hx
        clear hx hq hkl
        go_wp2_with fail
        go_round
        case rel => exact ⟨k + 1, by go_num, by omega, HK2⟩
        case measure => simp [intOf]; omega
    · obtain rfl : k = n := by omega
      have HM : Hid (x ∉ l) := Lib.hid (getD_mem (by rw [HN.out]; exact HK.out))
      go_wp2_with fail
      go_ret
      exact ⟨-1, rfl, iff_of_false (by omega) HM.out, rfl⟩
set_option maxHeartbeats 2000000 in
theorem contains_any (v : Value) (l : List Int) (x : Int) (w : World) (h : IntS w v l) (hl : l.length ≤ 140737488355328) :
    Calls Tryz.prog 18 #[v, .int .i64 x] w fun e w' => e = .returned (.bool (decide (x ∈ l))) ∧ w' = w := by
  have C := Lib.hid (index_any v l x w h hl)
  obtain ⟨oa, cap, rfl, -, -⟩ := h
  obtain ⟨n, hn⟩ : ∃ n, l.length = n := ⟨_, rfl⟩
  rw [hn] at C ⊢
  obtain ⟨B, hB⟩ : ∃ B, decide (x ∈ l) = B := ⟨_, rfl⟩
  rw [hB]
  have HB := Lib.hid hB
  clear hn hB
  go_enter Tryz.func18, Tryz.ntmps18
  go_wp2_with (go_at_call 31; refine C.out.mono ?_; rintro e w1 ⟨i, rfl, hi, rfl⟩; have HI := Lib.hid hi; clear hi)
  go_ret
  have e : decide (0 ≤ i) = B := by rw [← HB.out]; exact decide_eq_decide.2 HI.out
  exact ⟨by rw [← e]; rfl, rfl⟩
set_option maxHeartbeats 2000000 in
theorem memberI_any (v : Value) (l : List Int) (x : Int) (w : World) (h : IntS w v l) (hl : l.length ≤ 140737488355328) :
    Calls Tryz.prog 12 #[v, .int .i64 x] w fun e w' => e = .returned (.bool (decide (x ∈ l))) ∧ w' = w := by
  obtain ⟨oa, cap, rfl, -, -⟩ := id h
  obtain ⟨n, hn⟩ : ∃ n, l.length = n := ⟨_, rfl⟩
  rw [hn] at h hl ⊢
  have H := Lib.hid h
  have HN := Lib.hid hn
  clear h hn
  go_enter Tryz.func12, Tryz.ntmps12
  go_wp2_with fail
  go_loop [5] (fun c => ∃ k : Nat, c = .int .i64 (k : Int) ∧ k ≤ n ∧ Hid (∀ j, j < k → l.getD j 0 ≠ x)) (fun c => n - (intOf c).toNat)
  case atStart => exact ⟨0, rfl, by omega, Lib.hid fun j hj => by omega⟩
  case round =>
    obtain ⟨k, rfl, hk, HK⟩ := hrel
    by_cases hkn : k < n
    · have hkl : k < l.length := by rw [HN.out]; exact hkn
      obtain ⟨ad, rfl, hc⟩ := H.out.at hkl
      obtain ⟨q, hq⟩ : ∃ q, l.getD k 0 = q := ⟨_, rfl⟩
      rw [hq] at hc
      by_cases hx : q = x
      · have HM : Hid (x ∈ l) := Lib.hid (by rw [← hx, ← hq]; exact at_mem hkl)
        have hb : (q == x) = true := by simpa using hx
        clear hx hq hkl
        go_wp2_with fail
        go_ret
        exact ⟨by rw [decide_eq_true HM.out]; rfl, rfl⟩
      · have HK2 : Hid (∀ j, j < k + 1 → l.getD j 0 ≠ x) := Lib.hid fun j hj => by
          by_cases e : j = k
          · subst e; rw [hq]; exact hx
          · exact HK.out j (by omega)
        have hb : (q == x) = false := by simpa using hx
        clear hx hq hkl
        go_wp2_with fail
        go_round
        case rel => exact ⟨k + 1, by go_num, by omega, HK2⟩
        case measure => simp [intOf]; omega
    · obtain rfl : k = n := by omega
      have HM : Hid (x ∉ l) := Lib.hid (getD_mem (by rw [HN.out]; exact HK.out))
      go_wp2_with fail
      go_ret
      exact ⟨by rw [decide_eq_false HM.out]; rfl, rfl⟩
theorem mem_atP {l : List (Int × Int)} {x : Int × Int} (h : x ∈ l) : ∃ i, i < l.length ∧ l.getD i (0, 0) = x := by
  obtain ⟨i, hi, rfl⟩ := List.mem_iff_getElem.1 h
  exact ⟨i, hi, by rw [List.getD, List.getElem?_eq_getElem hi]; rfl⟩
theorem at_memP {l : List (Int × Int)} {i : Nat} (h : i < l.length) : l.getD i (0, 0) ∈ l := by
  rw [List.getD, List.getElem?_eq_getElem h]
  exact List.getElem_mem h
set_option maxHeartbeats 4000000 in
theorem indexN_any (v : Value) (l : List (Int × Int)) (a b : Int) (w : World) (h : PairS w v l) (hl : l.length ≤ 140737488355328) :
    Calls Tryz.prog 61 #[v, .agg #[.int .i64 a, .int .i64 b]] w fun e w' => ∃ i : Int, e = .returned (.int .i64 i) ∧ (0 ≤ i ↔ (a, b) ∈ l) ∧ Below w.heap.size w w' := by
  obtain ⟨oa, cap, rfl, -, -⟩ := id h
  obtain ⟨n, hn⟩ : ∃ n, l.length = n := ⟨_, rfl⟩
  rw [hn] at h hl ⊢
  have H := Lib.hid h
  have HN := Lib.hid hn
  clear h hn
  obtain ⟨wB, hwB⟩ : ∃ x, w.alloc (.cells #[.int .i64 a, .int .i64 b] 59) = x := ⟨_, rfl⟩
  have HB0 : Hid (Below w.heap.size w wB) := Lib.hid (by rw [← hwB]; exact (Below.refl _ _).alloc (Nat.le_refl _) _)
  have x0 : wB.cell? ⟨w.heap.size, 0, none⟩ = some (.int .i64 a) := by rw [← hwB]; simp
  have x1 : wB.cell? ⟨w.heap.size, 1, none⟩ = some (.int .i64 b) := by rw [← hwB]; simp
  have HwB := Lib.hid hwB
  clear hwB
  go_enter Tryz.func61, Tryz.ntmps61
  go_wp2_with fail
  rw [HwB.out]
  go_loopw [8] (fun c wr => ∃ (k m : Nat), c = .int .i64 (k : Int) ∧ k ≤ n ∧ wr = wB.drewN m ∧ Hid (∀ j, j < k → l.getD j (0, 0) ≠ (a, b))) (fun c _ => n - (intOf c).toNat)
  case atStart => exact ⟨0, 0, rfl, by omega, rfl, Lib.hid fun j hj => by omega⟩
  case round =>
    obtain ⟨k, m, rfl, hk, hwr, HK⟩ := hrel
    subst hwr
    by_cases hkn : k < n
    · have hkl : k < l.length := by rw [HN.out]; exact hkn
      obtain ⟨ad, rfl, hc1, hc2⟩ := (H.out.call HB0.out).at hkl
      have hmem := at_memP hkl
      obtain ⟨q, hq⟩ : ∃ q, l.getD k (0, 0) = q := ⟨_, rfl⟩
      rw [hq] at hc1 hc2 hmem
      obtain ⟨N, Y⟩ := q
      dsimp only at hc1 hc2
      have hi0 : (0 : Int) ≤ (k : Int) := by omega
      have hi1 : (k : Int) < (n : Int) := by omega
      by_cases hx : a = N ∧ b = Y
      · obtain ⟨rfl, rfl⟩ := hx
        have HM : Hid ((a, b) ∈ l) := Lib.hid hmem
        clear hq hkl hmem
        go_wp2_with fail
        go_quiet (fail)
        go_wp2_with fail
        go_ret
        exact ⟨k, rfl, iff_of_true (by omega) HM.out, below_drewN (below_drewN HB0.out _) _⟩
      · have HK2 : Hid (∀ j, j < k + 1 → l.getD j (0, 0) ≠ (a, b)) := Lib.hid fun j hj => by
          by_cases e : j = k
          · subst e; rw [hq]; exact fun h => hx (by cases h; exact ⟨rfl, rfl⟩)
          · exact HK.out j (by omega)
        have HQ : Hid (((a == N) && (b == Y)) = false) := Lib.hid (by
          rw [Bool.and_eq_false_iff]
          by_cases e : a = N
          · exact .inr (by simpa using fun h => hx ⟨e, h⟩)
          · exact .inl (by simpa using e))
        clear hq hkl hmem hx
        by_cases e1 : a = N
        · subst e1
          have e2 : (b == Y) = false := by have := HQ.out; simpa using this
          go_wp2_with fail
          go_quiet (fail)
          go_wp2_with fail
          go_roundw
          case rel => exact ⟨k + 1, _, by go_num, by omega, rfl, HK2⟩
          case measure => simp [intOf]; omega
        · have e2 : (a == N) = false := by simpa using e1
          clear e1
          go_wp2_with fail
          go_quiet (fail)
          go_wp2_with fail
          go_roundw
          case rel => exact ⟨k + 1, _, by go_num, by omega, rfl, HK2⟩
          case measure => simp [intOf]; omega
    · obtain rfl : k = n := by omega
      have HM : Hid ((a, b) ∉ l) := Lib.hid (fun hm => by
        obtain ⟨i, hi, e⟩ := mem_atP hm
        exact HK.out i (by rw [← HN.out]; exact hi) e)
      go_wp2_with fail
      go_ret
      exact ⟨-1, rfl, iff_of_false (by omega) HM.out, below_drewN HB0.out _⟩
set_option maxHeartbeats 2000000 in
theorem containsN_any (v : Value) (l : List (Int × Int)) (a b : Int) (w : World) (h : PairS w v l) (hl : l.length ≤ 140737488355328) :
    Calls Tryz.prog 45 #[v, .agg #[.int .i64 a, .int .i64 b]] w fun e w' => e = .returned (.bool (decide ((a, b) ∈ l))) ∧ Below w.heap.size w w' := by
  have C : Hid (∀ w0, Below w.heap.size w w0 → Calls Tryz.prog 61 #[v, .agg #[.int .i64 a, .int .i64 b]] w0 fun e w' => ∃ i : Int, e = .returned (.int .i64 i) ∧ (0 ≤ i ↔ (a, b) ∈ l) ∧ Below w0.heap.size w0 w') := Lib.hid fun w0 hb => indexN_any v l a b w0 (h.call hb) hl
  obtain ⟨oa, cap, rfl, -, -⟩ := h
  obtain ⟨n, hn⟩ : ∃ n, l.length = n := ⟨_, rfl⟩
  rw [hn] at C ⊢
  obtain ⟨B, hB⟩ : ∃ B, decide ((a, b) ∈ l) = B := ⟨_, rfl⟩
  rw [hB]
  have HB := Lib.hid hB
  clear hn hB
  have HB0 := Lib.hid ((Below.refl w.heap.size w).alloc (Nat.le_refl _) (.cells #[.int .i64 a, .int .i64 b] 59))
  go_enter Tryz.func45, Tryz.ntmps45
  go_wp2_with (go_at_call 61; refine (C.out _ HB0.out).mono ?_; rintro e w1 ⟨i, rfl, hi, hb⟩; have HI := Lib.hid hi; have HB1 := Lib.hid (thenB HB0.out hb); clear hi hb)
  go_ret
  have e : decide (0 ≤ i) = B := by rw [← HB.out]; exact decide_eq_decide.2 HI.out
  exact ⟨by rw [← e]; rfl, HB1.out⟩
end Go.Proofs.YtdnbnpknmdcljaaGreatDoor
