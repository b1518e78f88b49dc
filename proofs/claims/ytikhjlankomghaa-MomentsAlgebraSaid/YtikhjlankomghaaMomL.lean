/- TimesOf, Has, Spans; lists held against each other. -/
import Derived.Test.YtikhjlankomghaaMomK
namespace Go.Proofs.Ytikhjlankomghaa
open Go.RowKit
set_option maxRecDepth 100000 in
set_option maxHeartbeats 4000000 in
theorem ptimes_any (v0 : Value) (la : List Iv) (w : World) (h0 : IvS w v0 la) (hl : la.length ≤ 1000000000) :
    Calls Try.prog 4 #[v0] w (TimR (OfM la) w) := by
  obtain ⟨ob0, cap0, rfl, -, hR⟩ := h0
  obtain ⟨n0, hm0⟩ : ∃ n, la.length = n := ⟨_, rfl⟩
  rw [hm0] at hl ⊢
  have HB0 := Lib.hid (Below.alloc (Below.refl w.heap.size w) (Nat.le_refl _) (.cells #[.slice none 0 0] 27))
  have hcon := fun w' (hb : Below w.heap.size w w') => of_any ob0 la n0 cap0 w' hm0 hl (hR.call hb)
  have HCON := Lib.hid hcon
  clear hcon hR hm0
  go_enter Try.func4, Try.ntmps4
  go_wp2_with fail
  refine (HCON.out _ HB0.out).mono ?_
  rintro e w3 ⟨v3, o3, rfl, hP, hv3, hnw, hb3⟩
  have HP := Lib.hid hP
  have HV3 := Lib.hid hv3
  have HNW := Lib.hid hnw
  have HB3 := Lib.hid (thenB HB0.out hb3)
  have hc1 := hb3.cell (p := ⟨w.heap.size, 0, none⟩) (by simp [go_sem])
  have hc2 := hb3.frozen (p := ⟨w.heap.size, 0, none⟩) (by simp [go_sem])
  have hc3 := hb3.size
  simp [go_sem] at hc1 hc2 hc3
  obtain ⟨ob3, cap3, rfl, -, -⟩ := id hv3
  obtain ⟨n3, hn3⟩ : ∃ n, o3.length = n := ⟨_, rfl⟩
  rw [hn3] at HV3 HNW
  rw [hn3]
  clear hP hv3 hnw hb3 hn3
  go_wp2_with fail
  have z0 : (w3.setCell ⟨w.heap.size, 0, none⟩ (.slice ob3 n3 cap3)).cell? ⟨w.heap.size, 0, none⟩ = some (.slice ob3 n3 cap3) := World.cell?_setCell_same _ _ _ hc1
  refine bodyPost_ret (v := .agg #[.slice ob3 n3 cap3]) (by simp [results, Try.results4, go_sem, z0]) rfl ⟨.slice ob3 n3 cap3, o3, rfl, HP.out, ?_, ?_, ?_⟩
  · refine HV3.out.far (fun a c nn h e => ?_) _ _
    have h1 := HNW.out a nn c h
    simp at h1
    omega
  · intro a nn c h
    have h1 := HNW.out a nn c h
    simp at h1
    omega
  · exact HB3.out.setCell (p := ⟨w.heap.size, 0, none⟩) (by show w.heap.size ≤ w.heap.size; omega) _
theorem inL_take {l : List Iv} {k : Nat} (h : k < l.length) (x : Int) : InL (l.take (k + 1)) x ↔ InL (l.take k) x ∨ ((l.getD k iv0).1 ≤ x ∧ x < (l.getD k iv0).2) := by
  rw [List.take_add_one, iv_get h, inL_append]
  show _ ∨ InL [l.getD k iv0] x ↔ _
  rw [inL_one]
set_option maxRecDepth 100000 in
set_option maxHeartbeats 4000000 in
theorem has_any (v0 : Value) (l : List Iv) (x : Int) (w : World) (h0 : IvS w v0 l) (hl : l.length ≤ 1000000000) :
    Calls Try.prog 14 #[.agg #[v0], .int .i64 x] w fun e w' => ∃ q : Bool, e = .returned (.bool q) ∧ (q = true ↔ InL l x) ∧ Below w.heap.size w w' := by
  obtain ⟨ob, cap, rfl, -, hR⟩ := h0
  obtain ⟨n, hm⟩ : ∃ n, l.length = n := ⟨_, rfl⟩
  have HM := Lib.hid hm
  have HR := Lib.hid hR
  rw [hm] at hl ⊢
  clear hR hm
  have HB0 := Lib.hid (Below.alloc (Below.refl w.heap.size w) (Nat.le_refl _) (.cells #[.slice ob n cap] 25))
  go_enter Try.func14, Try.ntmps14
  go_wp2_with fail
  go_loopw [10] (fun c wr => ∃ k : Nat, c = .int .i64 (k : Int) ∧ k ≤ n ∧ Hid (¬ InL (l.take k) x) ∧ Hid (Below w.heap.size w wr)) (fun c _ => n - (intOf c).toNat)
  case atStart => exact ⟨0, rfl, by omega, Lib.hid (by rw [List.take_zero]; exact InL.nil _), HB0⟩
  case round =>
    clear HB0
    obtain ⟨k, rfl, hk, HN, HB⟩ := hrel
    obtain ⟨wA, rfl⟩ : ∃ wo : World, wo = wr := ⟨_, rfl⟩
    by_cases hkn : k < n
    · have hkl : k < l.length := by rw [HM.out]; exact hkn
      have HRA := Lib.hid (HR.out.call HB.out)
      obtain ⟨a, rfl⟩ := HRA.out.1 (by omega)
      obtain ⟨c0, c1⟩ := HRA.out.at hkl
      have hst := inL_take hkl x
      have hall : InL (l.take (k + 1)) x → InL l x := fun ⟨p, h1, h2⟩ => ⟨p, List.mem_of_mem_take h1, h2⟩
      obtain ⟨X, hX⟩ : ∃ x, (l.getD k iv0).1 = x := ⟨_, rfl⟩
      obtain ⟨Y, hY⟩ : ∃ x, (l.getD k iv0).2 = x := ⟨_, rfl⟩
      rw [hX] at c0 hst
      rw [hY] at c1 hst
      have HST := Lib.hid hst
      have HALL := Lib.hid hall
      have hab := World.block_lt_of_cell? _ _ c0
      have k1 : (0 : Int) ≤ (k : Int) := by omega
      have k2 : (k : Int) < (n : Int) := by omega
      have HB1 := Lib.hid (HB.out.alloc HB.out.size (.cells #[.int .i64 X, .int .i64 Y] 32))
      clear hkl hX hY hst hall
      by_cases h1 : X ≤ x
      · have d1 : decide (X ≤ x) = true := decide_eq_true h1
        by_cases h2 : x < Y
        · have d2 : decide (x < Y) = true := decide_eq_true h2
          have HIN := Lib.hid (HALL.out (HST.out.2 (.inr ⟨h1, h2⟩)))
          clear h1 h2
          go_wp2_with fail
          go_ret
          exact ⟨true, rfl, ⟨fun _ => HIN.out, fun _ => rfl⟩, HB1.out⟩
        · have d2 : decide (x < Y) = false := decide_eq_false h2
          have HNX := Lib.hid (show ¬ InL (l.take (k + 1)) x from fun h => (HST.out.1 h).elim HN.out fun h => h2 h.2)
          clear h1 h2
          go_wp2_with fail
          go_roundw
          case rel => exact ⟨k + 1, by go_num, by omega, HNX, HB1⟩
          case measure => simp [intOf]; omega
      · have d1 : decide (X ≤ x) = false := decide_eq_false h1
        have HNX := Lib.hid (show ¬ InL (l.take (k + 1)) x from fun h => (HST.out.1 h).elim HN.out fun h => h1 h.1)
        clear h1
        go_wp2_with fail
        go_roundw
        case rel => exact ⟨k + 1, by go_num, by omega, HNX, HB1⟩
        case measure => simp [intOf]; omega
    · obtain rfl : n = k := by omega
      have HNL := Lib.hid (show ¬ InL l x by have := HN.out; rw [List.take_of_length_le (by rw [HM.out]; exact Nat.le_refl _)] at this; exact this)
      clear HN
      go_wp2_with fail
      go_ret
      exact ⟨false, rfl, ⟨fun h => Bool.noConfusion h, fun h => absurd h HNL.out⟩, HB.out⟩
set_option maxHeartbeats 1000000 in
theorem phas_any (v0 : Value) (l : List Iv) (x : Int) (q : Bool) (w : World) (h0 : IvS w v0 l) (hl : l.length ≤ 1000000000) (hq : q = true ↔ InL l x) :
    Calls Try.prog 5 #[.agg #[v0], .int .i64 x] w fun e w' => e = .returned (.bool q) ∧ Below w.heap.size w w' := by
  have H0 := Lib.hid h0
  have HQ := Lib.hid hq
  have HL := Lib.hid hl
  obtain ⟨ob, cap, rfl, -, -⟩ := h0
  obtain ⟨n, hm⟩ : ∃ n, l.length = n := ⟨_, rfl⟩
  rw [hm] at H0 ⊢
  clear hm hq hl
  have HB0 := Lib.hid (Below.alloc (Below.refl w.heap.size w) (Nat.le_refl _) (.cells #[.slice ob n cap] 27))
  go_enter Try.func5, Try.ntmps5
  go_wp2_with fail
  refine (has_any _ l x _ (H0.out.call HB0.out) HL.out).mono ?_
  rintro e w2 ⟨r, rfl, hr, hb⟩
  have HB2 := Lib.hid (thenB HB0.out hb)
  have hrq : r = q := by
    have := hr.trans HQ.out.symm
    cases r <;> cases q <;> simp_all
  subst hrq
  clear hr hb
  go_wp2_with fail
  go_ret
  exact ⟨rfl, HB2.out⟩
set_option maxHeartbeats 1000000 in
theorem spans_any (v0 : Value) (l : List Iv) (w : World) (h0 : IvS w v0 l) (hl : l.length ≤ 1000000000) :
    Calls Try.prog 19 #[.agg #[v0]] w fun e w' => ∃ v', e = .returned v' ∧ IvS w' v' l ∧ Below w.heap.size w w' := by
  have H0 := Lib.hid h0
  have HL := Lib.hid hl
  obtain ⟨ob, cap, rfl, -, -⟩ := h0
  obtain ⟨n, hm⟩ : ∃ n, l.length = n := ⟨_, rfl⟩
  rw [hm] at H0 ⊢
  clear hm hl
  have HB0 := Lib.hid (Below.alloc (Below.refl w.heap.size w) (Nat.le_refl _) (.cells #[.slice ob n cap] 25))
  go_enter Try.func19, Try.ntmps19
  go_wp2_with fail
  refine (clone_any _ l _ HL.out (H0.out.call HB0.out)).mono ?_
  rintro e w2 ⟨v2, rfl, hv2, hb⟩
  have HV2 := Lib.hid hv2
  have HB2 := Lib.hid (thenB HB0.out hb)
  clear hv2 hb
  go_wp2_with fail
  go_ret
  exact ⟨_, rfl, HV2.out, HB2.out⟩
set_option maxHeartbeats 1000000 in
theorem pspans_any (v0 : Value) (l : List Iv) (w : World) (h0 : IvS w v0 l) (hl : l.length ≤ 1000000000) :
    Calls Try.prog 12 #[.agg #[v0]] w fun e w' => ∃ v', e = .returned v' ∧ IvS w' v' l ∧ Below w.heap.size w w' := by
  have H0 := Lib.hid h0
  have HL := Lib.hid hl
  obtain ⟨ob, cap, rfl, -, -⟩ := h0
  obtain ⟨n, hm⟩ : ∃ n, l.length = n := ⟨_, rfl⟩
  rw [hm] at H0 ⊢
  clear hm hl
  have HB0 := Lib.hid (Below.alloc (Below.refl w.heap.size w) (Nat.le_refl _) (.cells #[.slice ob n cap] 27))
  go_enter Try.func12, Try.ntmps12
  go_wp2_with fail
  refine (spans_any _ l _ (H0.out.call HB0.out) HL.out).mono ?_
  rintro e w2 ⟨v2, rfl, hv2, hb⟩
  have HV2 := Lib.hid hv2
  have HB2 := Lib.hid (thenB HB0.out hb)
  clear hv2 hb
  go_wp2_with fail
  go_ret
  exact ⟨_, rfl, HV2.out, HB2.out⟩
end Go.Proofs.Ytikhjlankomghaa
