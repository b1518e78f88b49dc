/- cron.month, cron.week. -/
import Derived.Test.YtdnbnpknmdcljaaGreatDoorCtmC
import Derived.Deep.Cut
import Derived.Deep.CutRange
namespace Go.Proofs.YtdnbnpknmdcljaaGreatDoor
open Go.RowKit
set_option maxRecDepth 100000 in
set_option maxHeartbeats 8000000 in
theorem month_any (c : Cron) (v0 v1 v2 v4 v6 v8 v9 v10 : Value) (n y m d long : Int) (w : World) (h : CronR w c v0 v1 v2 v4 v6 v8 v9 v10) (hz : CronZ c) (hg : CronG c) (ha : c.any = false) (d1 : 1 ≤ d) (d2 : d ≤ 31) (n1 : -4000000 ≤ n) (n2 : n ≤ 4000000) :
    Calls Tryz.prog 34 #[cronV c v0 v1 v2 v4 v6 v8 v9 v10, .agg #[.int .i64 1, .int .i64 y, .int .i64 m, .int .i64 d], .int .i64 n, .int .i64 long] w fun e w' => e = .returned (.bool (monthB c n d long)) ∧ Below w.heap.size w w' := by
  obtain ⟨B4, hB4⟩ : ∃ B, decide (d ∈ c.da) = B := ⟨_, rfl⟩
  have C4 : Hid (∀ w0, Below w.heap.size w w0 → Calls Tryz.prog 18 #[v4, .int .i64 d] w0 fun e w' => e = .returned (.bool B4) ∧ w' = w0) := Lib.hid fun w0 hb => hB4 ▸ contains_any v4 c.da d w0 (h.call hb).da hz.da
  obtain ⟨BN, hBN⟩ : ∃ B, nearB c n d long = B := ⟨_, rfl⟩
  have CN : Hid (∀ (w0 : World) (BL BD BB : Nat), Below w.heap.size w w0 → w0.cell? ⟨BL, 0, none⟩ = some (.int .i64 long) → w0.cell? ⟨BD, 3, none⟩ = some (.int .i64 d) → w0.cell? ⟨BB, 0, none⟩ = some (.int .i64 n) → Calls Tryz.prog 46 #[v6, .func (.func 47) #[] #[.pointer (some ⟨BL, 0, none⟩), .pointer (some ⟨BD, 0, none⟩), .pointer (some ⟨BB, 0, none⟩)]] w0 fun e w' => e = .returned (.bool BN) ∧ ∃ q, w' = w0.drewN q) := Lib.hid fun w0 BL BD BB hb cl cd cn => hBN ▸ containsFunc_any v6 c.ne (nearK n d long) _ _ _ w0 (h.call hb).ne hz.ne (fun x q hx => by
    obtain ⟨i, hi, rfl⟩ := mem_at hx
    have hr := ris_at hg.ne i hi
    exact monthF_any _ n d long BL BD BB (w0.drewN q) cl cd cn hr.1 hr.2.1 d1 d2 n1 n2)
  have HM : Hid (monthB c n d long = (B4 || (c.la && decide (d = long)) || BN)) := Lib.hid (by unfold monthB; rw [hB4, hBN])
  clear hB4 hBN hz hg
  obtain ⟨o0, p0, hv0, -, -⟩ := id h.mi
  obtain ⟨n0, hn0⟩ : ∃ n, c.mi.length = n := ⟨_, rfl⟩
  rw [hn0] at hv0
  subst hv0
  obtain ⟨o1, p1, hv1, -, -⟩ := id h.ho
  obtain ⟨n1, hn1⟩ : ∃ n, c.ho.length = n := ⟨_, rfl⟩
  rw [hn1] at hv1
  subst hv1
  obtain ⟨o2, p2, hv2, -, -⟩ := id h.mo
  obtain ⟨n2, hn2⟩ : ∃ n, c.mo.length = n := ⟨_, rfl⟩
  rw [hn2] at hv2
  subst hv2
  obtain ⟨o4, p4, hv4, -, -⟩ := id h.da
  obtain ⟨n4, hn4⟩ : ∃ n, c.da.length = n := ⟨_, rfl⟩
  rw [hn4] at hv4
  subst hv4
  obtain ⟨o6, p6, hv6, -, -⟩ := id h.ne
  obtain ⟨n6, hn6⟩ : ∃ n, c.ne.length = n := ⟨_, rfl⟩
  rw [hn6] at hv6
  subst hv6
  obtain ⟨o8, p8, hv8, -, -⟩ := id h.wd
  obtain ⟨n8, hn8⟩ : ∃ n, c.wd.length = n := ⟨_, rfl⟩
  rw [hn8] at hv8
  subst hv8
  obtain ⟨o9, p9, hv9, -, -⟩ := id h.lo
  obtain ⟨n9, hn9⟩ : ∃ n, c.lo.length = n := ⟨_, rfl⟩
  rw [hn9] at hv9
  subst hv9
  obtain ⟨o10, p10, hv10, -, -⟩ := id h.nt
  obtain ⟨n10, hn10⟩ : ∃ n, c.nt.length = n := ⟨_, rfl⟩
  rw [hn10] at hv10
  subst hv10
  obtain ⟨A, hA⟩ : ∃ x, c.any = x := ⟨_, rfl⟩
  obtain ⟨La, hLa⟩ : ∃ x, c.la = x := ⟨_, rfl⟩
  obtain ⟨Aw, hAw⟩ : ∃ x, c.aw = x := ⟨_, rfl⟩
  rw [hA] at ha
  subst ha
  rw [hLa] at HM
  obtain ⟨R, hR⟩ : ∃ R, monthB c n d long = R := ⟨_, rfl⟩
  rw [hR] at HM ⊢
  unfold cronV
  rw [hA, hLa, hAw]
  clear hA hLa hAw hn0 hn1 hn2 hn4 hn6 hn8 hn9 hn10 h hR
  obtain ⟨wB, hwB⟩ : ∃ x, (((w.alloc (.cells #[.slice o0 n0 p0, .slice o1 n1 p1, .slice o2 n2 p2, .bool false, .slice o4 n4 p4, .bool La, .slice o6 n6 p6, .bool Aw, .slice o8 n8 p8, .slice o9 n9 p9, .slice o10 n10 p10] 25)).alloc (.cells #[.int .i64 1, .int .i64 y, .int .i64 m, .int .i64 d] 48)).alloc (.cells #[.int .i64 n] 3)).alloc (.cells #[.int .i64 long] 3) = x := ⟨_, rfl⟩
  have HB0 : Hid (Below w.heap.size w wB) := Lib.hid (by rw [← hwB]; exact ((((Below.refl _ _).alloc (Nat.le_refl _) _).alloc (by simp) _).alloc (by simp; omega) _).alloc (by simp; omega) _)
  have q0 : wB.cell? ⟨w.heap.size, 0, none⟩ = some (.slice o0 n0 p0) := by rw [← hwB, World.cell?_alloc_lt _ _ _ (by simp; try omega), World.cell?_alloc_lt _ _ _ (by simp; try omega), World.cell?_alloc_lt _ _ _ (by simp; try omega), World.cell?_alloc_at _ _ _ _ (by simp)]; simp
  have q1 : wB.cell? ⟨w.heap.size, 1, none⟩ = some (.slice o1 n1 p1) := by rw [← hwB, World.cell?_alloc_lt _ _ _ (by simp; try omega), World.cell?_alloc_lt _ _ _ (by simp; try omega), World.cell?_alloc_lt _ _ _ (by simp; try omega), World.cell?_alloc_at _ _ _ _ (by simp)]; simp
  have q2 : wB.cell? ⟨w.heap.size, 2, none⟩ = some (.slice o2 n2 p2) := by rw [← hwB, World.cell?_alloc_lt _ _ _ (by simp; try omega), World.cell?_alloc_lt _ _ _ (by simp; try omega), World.cell?_alloc_lt _ _ _ (by simp; try omega), World.cell?_alloc_at _ _ _ _ (by simp)]; simp
  have q3 : wB.cell? ⟨w.heap.size, 3, none⟩ = some (.bool false) := by rw [← hwB, World.cell?_alloc_lt _ _ _ (by simp; try omega), World.cell?_alloc_lt _ _ _ (by simp; try omega), World.cell?_alloc_lt _ _ _ (by simp; try omega), World.cell?_alloc_at _ _ _ _ (by simp)]; simp
  have q4 : wB.cell? ⟨w.heap.size, 4, none⟩ = some (.slice o4 n4 p4) := by rw [← hwB, World.cell?_alloc_lt _ _ _ (by simp; try omega), World.cell?_alloc_lt _ _ _ (by simp; try omega), World.cell?_alloc_lt _ _ _ (by simp; try omega), World.cell?_alloc_at _ _ _ _ (by simp)]; simp
  have q5 : wB.cell? ⟨w.heap.size, 5, none⟩ = some (.bool La) := by rw [← hwB, World.cell?_alloc_lt _ _ _ (by simp; try omega), World.cell?_alloc_lt _ _ _ (by simp; try omega), World.cell?_alloc_lt _ _ _ (by simp; try omega), World.cell?_alloc_at _ _ _ _ (by simp)]; simp
  have q6 : wB.cell? ⟨w.heap.size, 6, none⟩ = some (.slice o6 n6 p6) := by rw [← hwB, World.cell?_alloc_lt _ _ _ (by simp; try omega), World.cell?_alloc_lt _ _ _ (by simp; try omega), World.cell?_alloc_lt _ _ _ (by simp; try omega), World.cell?_alloc_at _ _ _ _ (by simp)]; simp
  have q7 : wB.cell? ⟨w.heap.size, 7, none⟩ = some (.bool Aw) := by rw [← hwB, World.cell?_alloc_lt _ _ _ (by simp; try omega), World.cell?_alloc_lt _ _ _ (by simp; try omega), World.cell?_alloc_lt _ _ _ (by simp; try omega), World.cell?_alloc_at _ _ _ _ (by simp)]; simp
  have q8 : wB.cell? ⟨w.heap.size, 8, none⟩ = some (.slice o8 n8 p8) := by rw [← hwB, World.cell?_alloc_lt _ _ _ (by simp; try omega), World.cell?_alloc_lt _ _ _ (by simp; try omega), World.cell?_alloc_lt _ _ _ (by simp; try omega), World.cell?_alloc_at _ _ _ _ (by simp)]; simp
  have q9 : wB.cell? ⟨w.heap.size, 9, none⟩ = some (.slice o9 n9 p9) := by rw [← hwB, World.cell?_alloc_lt _ _ _ (by simp; try omega), World.cell?_alloc_lt _ _ _ (by simp; try omega), World.cell?_alloc_lt _ _ _ (by simp; try omega), World.cell?_alloc_at _ _ _ _ (by simp)]; simp
  have q10 : wB.cell? ⟨w.heap.size, 10, none⟩ = some (.slice o10 n10 p10) := by rw [← hwB, World.cell?_alloc_lt _ _ _ (by simp; try omega), World.cell?_alloc_lt _ _ _ (by simp; try omega), World.cell?_alloc_lt _ _ _ (by simp; try omega), World.cell?_alloc_at _ _ _ _ (by simp)]; simp
  have q11 : wB.cell? ⟨w.heap.size + 1, 3, none⟩ = some (.int .i64 d) := by rw [← hwB, World.cell?_alloc_lt _ _ _ (by simp; try omega), World.cell?_alloc_lt _ _ _ (by simp; try omega), World.cell?_alloc_at _ _ _ _ (by simp)]; simp
  have q12 : wB.cell? ⟨w.heap.size + 1 + 1, 0, none⟩ = some (.int .i64 n) := by rw [← hwB, World.cell?_alloc_lt _ _ _ (by simp; try omega), World.cell?_alloc_at _ _ _ _ (by simp)]; simp
  have q13 : wB.cell? ⟨w.heap.size + 1 + 1 + 1, 0, none⟩ = some (.int .i64 long) := by rw [← hwB, World.cell?_alloc_at _ _ _ _ (by simp)]; simp
  have HwB := Lib.hid hwB
  clear hwB
  go_enter Tryz.func34, Tryz.ntmps34
  go_upto_region 1 with fail
  rw [HwB.out]
  cases B4 with
  | true =>
    obtain rfl : true = R := by rw [HM.out]; simp
    go_wp2_with (go_at_call 18; (with_reducible refine (C4.out _ HB0.out).mono ?_); rintro e w1 ⟨rfl, rfl⟩)
    go_ret
    exact ⟨rfl, HB0.out⟩
  | false =>
    cases La with
    | true =>
      by_cases hd : d = long
      · obtain rfl : true = R := by rw [HM.out]; simp [hd]
        have hb : (d == long) = true := by simpa using hd
        clear hd
        go_wp2_with (go_at_call 18; (with_reducible refine (C4.out _ HB0.out).mono ?_); rintro e w1 ⟨rfl, rfl⟩)
        go_ret
        exact ⟨rfl, HB0.out⟩
      · obtain rfl : BN = R := by rw [HM.out]; simp [hd]
        have hb : (d == long) = false := by simpa using hd
        clear hd
        go_wp2_with (first
          | (go_at_call 18; (with_reducible refine (C4.out _ HB0.out).mono ?_); rintro e w1 ⟨rfl, rfl⟩)
          | (go_at_call 46; refine (CN.out _ (w.heap.size + 1 + 1 + 1) (w.heap.size + 1) (w.heap.size + 1 + 1) HB0.out q13 q11 q12).mono ?_; rintro e w1 ⟨rfl, q, rfl⟩))
        go_ret
        exact ⟨rfl, below_drewN HB0.out _⟩
    | false =>
      obtain rfl : BN = R := by rw [HM.out]; simp
      go_wp2_with (first
        | (go_at_call 18; (with_reducible refine (C4.out _ HB0.out).mono ?_); rintro e w1 ⟨rfl, rfl⟩)
        | (go_at_call 46; refine (CN.out _ (w.heap.size + 1 + 1 + 1) (w.heap.size + 1) (w.heap.size + 1 + 1) HB0.out q13 q11 q12).mono ?_; rintro e w1 ⟨rfl, q, rfl⟩))
      go_ret
      exact ⟨rfl, below_drewN HB0.out _⟩
set_option maxRecDepth 100000 in
set_option maxHeartbeats 8000000 in
theorem week_any (c : Cron) (v0 v1 v2 v4 v6 v8 v9 v10 : Value) (n y m d long : Int) (w : World) (h : CronR w c v0 v1 v2 v4 v6 v8 v9 v10) (hz : CronZ c) (d1 : 1 ≤ d) (d2 : d ≤ 31) (n1 : -4000000 ≤ n) (n2 : n ≤ 4000000) :
    Calls Tryz.prog 33 #[cronV c v0 v1 v2 v4 v6 v8 v9 v10, .agg #[.int .i64 1, .int .i64 y, .int .i64 m, .int .i64 d], .int .i64 n, .int .i64 long] w fun e w' => e = .returned (.bool (c.aw || weekB c n d long)) ∧ Below w.heap.size w w' := by
  obtain ⟨x, hx⟩ : ∃ x, Dm.wd n = x := ⟨_, rfl⟩
  obtain ⟨B8, hB8⟩ : ∃ B, decide (x ∈ c.wd) = B := ⟨_, rfl⟩
  obtain ⟨B9, hB9⟩ : ∃ B, decide (x ∈ c.lo) = B := ⟨_, rfl⟩
  obtain ⟨BN, hBN⟩ : ∃ B, decide (((d - 1) / 7 + 1, x) ∈ c.nt) = B := ⟨_, rfl⟩
  have CW : Hid (∀ w0, Calls Tryz.prog 44 #[.int .i64 n] w0 fun e w' => e = .returned (.int .i64 x) ∧ w0 = w') := Lib.hid fun w0 => hx ▸ weekday_any n w0 (InI.mk (by omega) (by omega))
  have C8 : Hid (∀ w0, Below w.heap.size w w0 → Calls Tryz.prog 18 #[v8, .int .i64 x] w0 fun e w' => e = .returned (.bool B8) ∧ w' = w0) := Lib.hid fun w0 hb => hB8 ▸ contains_any v8 c.wd x w0 (h.call hb).wd hz.wd
  have C9 : Hid (∀ w0, Below w.heap.size w w0 → Calls Tryz.prog 18 #[v9, .int .i64 x] w0 fun e w' => e = .returned (.bool B9) ∧ w' = w0) := Lib.hid fun w0 hb => hB9 ▸ contains_any v9 c.lo x w0 (h.call hb).lo hz.lo
  have CN : Hid (∀ w0, Below w.heap.size w w0 → Calls Tryz.prog 45 #[v10, .agg #[.int .i64 ((d - 1) / 7 + 1), .int .i64 x]] w0 fun e w' => e = .returned (.bool BN) ∧ Below w0.heap.size w0 w') := Lib.hid fun w0 hb => hBN ▸ containsN_any v10 c.nt _ x w0 (h.call hb).nt hz.nt
  have HM : Hid ((c.aw || weekB c n d long) = (c.aw || (B8 || (B9 && decide (long < d + 7)) || BN))) := Lib.hid (by unfold weekB; rw [hx, hB8, hB9, hBN])
  clear hB8 hB9 hBN hx hz
  obtain ⟨o0, p0, hv0, -, -⟩ := id h.mi
  obtain ⟨n0, hn0⟩ : ∃ n, c.mi.length = n := ⟨_, rfl⟩
  rw [hn0] at hv0
  subst hv0
  obtain ⟨o1, p1, hv1, -, -⟩ := id h.ho
  obtain ⟨n1, hn1⟩ : ∃ n, c.ho.length = n := ⟨_, rfl⟩
  rw [hn1] at hv1
  subst hv1
  obtain ⟨o2, p2, hv2, -, -⟩ := id h.mo
  obtain ⟨n2, hn2⟩ : ∃ n, c.mo.length = n := ⟨_, rfl⟩
  rw [hn2] at hv2
  subst hv2
  obtain ⟨o4, p4, hv4, -, -⟩ := id h.da
  obtain ⟨n4, hn4⟩ : ∃ n, c.da.length = n := ⟨_, rfl⟩
  rw [hn4] at hv4
  subst hv4
  obtain ⟨o6, p6, hv6, -, -⟩ := id h.ne
  obtain ⟨n6, hn6⟩ : ∃ n, c.ne.length = n := ⟨_, rfl⟩
  rw [hn6] at hv6
  subst hv6
  obtain ⟨o8, p8, hv8, -, -⟩ := id h.wd
  obtain ⟨n8, hn8⟩ : ∃ n, c.wd.length = n := ⟨_, rfl⟩
  rw [hn8] at hv8
  subst hv8
  obtain ⟨o9, p9, hv9, -, -⟩ := id h.lo
  obtain ⟨n9, hn9⟩ : ∃ n, c.lo.length = n := ⟨_, rfl⟩
  rw [hn9] at hv9
  subst hv9
  obtain ⟨o10, p10, hv10, -, -⟩ := id h.nt
  obtain ⟨n10, hn10⟩ : ∃ n, c.nt.length = n := ⟨_, rfl⟩
  rw [hn10] at hv10
  subst hv10
  obtain ⟨A, hA⟩ : ∃ x, c.any = x := ⟨_, rfl⟩
  obtain ⟨La, hLa⟩ : ∃ x, c.la = x := ⟨_, rfl⟩
  obtain ⟨Aw, hAw⟩ : ∃ x, c.aw = x := ⟨_, rfl⟩
  rw [hAw] at HM ⊢
  obtain ⟨R, hR⟩ : ∃ R, (Aw || weekB c n d long) = R := ⟨_, rfl⟩
  rw [hR] at HM ⊢
  unfold cronV
  rw [hA, hLa, hAw]
  clear hA hLa hAw hn0 hn1 hn2 hn4 hn6 hn8 hn9 hn10 h hR
  obtain ⟨wB, hwB⟩ : ∃ x, ((w.alloc (.cells #[.slice o0 n0 p0, .slice o1 n1 p1, .slice o2 n2 p2, .bool A, .slice o4 n4 p4, .bool La, .slice o6 n6 p6, .bool Aw, .slice o8 n8 p8, .slice o9 n9 p9, .slice o10 n10 p10] 25)).alloc (.cells #[.int .i64 1, .int .i64 y, .int .i64 m, .int .i64 d] 48)) = x := ⟨_, rfl⟩
  have HB0 : Hid (Below w.heap.size w wB) := Lib.hid (by rw [← hwB]; exact ((Below.refl _ _).alloc (Nat.le_refl _) _).alloc (by simp) _)
  have q0 : wB.cell? ⟨w.heap.size, 0, none⟩ = some (.slice o0 n0 p0) := by rw [← hwB, World.cell?_alloc_lt _ _ _ (by simp; try omega), World.cell?_alloc_at _ _ _ _ (by simp)]; simp
  have q1 : wB.cell? ⟨w.heap.size, 1, none⟩ = some (.slice o1 n1 p1) := by rw [← hwB, World.cell?_alloc_lt _ _ _ (by simp; try omega), World.cell?_alloc_at _ _ _ _ (by simp)]; simp
  have q2 : wB.cell? ⟨w.heap.size, 2, none⟩ = some (.slice o2 n2 p2) := by rw [← hwB, World.cell?_alloc_lt _ _ _ (by simp; try omega), World.cell?_alloc_at _ _ _ _ (by simp)]; simp
  have q3 : wB.cell? ⟨w.heap.size, 3, none⟩ = some (.bool A) := by rw [← hwB, World.cell?_alloc_lt _ _ _ (by simp; try omega), World.cell?_alloc_at _ _ _ _ (by simp)]; simp
  have q4 : wB.cell? ⟨w.heap.size, 4, none⟩ = some (.slice o4 n4 p4) := by rw [← hwB, World.cell?_alloc_lt _ _ _ (by simp; try omega), World.cell?_alloc_at _ _ _ _ (by simp)]; simp
  have q5 : wB.cell? ⟨w.heap.size, 5, none⟩ = some (.bool La) := by rw [← hwB, World.cell?_alloc_lt _ _ _ (by simp; try omega), World.cell?_alloc_at _ _ _ _ (by simp)]; simp
  have q6 : wB.cell? ⟨w.heap.size, 6, none⟩ = some (.slice o6 n6 p6) := by rw [← hwB, World.cell?_alloc_lt _ _ _ (by simp; try omega), World.cell?_alloc_at _ _ _ _ (by simp)]; simp
  have q7 : wB.cell? ⟨w.heap.size, 7, none⟩ = some (.bool Aw) := by rw [← hwB, World.cell?_alloc_lt _ _ _ (by simp; try omega), World.cell?_alloc_at _ _ _ _ (by simp)]; simp
  have q8 : wB.cell? ⟨w.heap.size, 8, none⟩ = some (.slice o8 n8 p8) := by rw [← hwB, World.cell?_alloc_lt _ _ _ (by simp; try omega), World.cell?_alloc_at _ _ _ _ (by simp)]; simp
  have q9 : wB.cell? ⟨w.heap.size, 9, none⟩ = some (.slice o9 n9 p9) := by rw [← hwB, World.cell?_alloc_lt _ _ _ (by simp; try omega), World.cell?_alloc_at _ _ _ _ (by simp)]; simp
  have q10 : wB.cell? ⟨w.heap.size, 10, none⟩ = some (.slice o10 n10 p10) := by rw [← hwB, World.cell?_alloc_lt _ _ _ (by simp; try omega), World.cell?_alloc_at _ _ _ _ (by simp)]; simp
  have q11 : wB.cell? ⟨w.heap.size + 1, 3, none⟩ = some (.int .i64 d) := by rw [← hwB, World.cell?_alloc_at _ _ _ _ (by simp)]; simp
  have HwB := Lib.hid hwB
  clear hwB
  have e0 : (0 : Int) ≤ d - 1 := by omega
  go_enter Tryz.func33, Tryz.ntmps33
  go_upto_region 2 with (go_at_call 44; (with_reducible refine (CW.out _).mono ?_); rintro e w1 ⟨rfl, rfl⟩)
  rw [HwB.out]
  cases Aw with
  | true =>
    obtain rfl : true = R := by rw [HM.out]; rfl
    go_wp2_with fail
    go_ret
    exact ⟨rfl, HB0.out⟩
  | false =>
    cases B8 with
    | true =>
      obtain rfl : true = R := by rw [HM.out]; rfl
      go_wp2_with (go_at_call 18; (with_reducible refine (C8.out _ HB0.out).mono ?_); rintro e w1 ⟨rfl, rfl⟩)
      go_ret
      exact ⟨rfl, HB0.out⟩
    | false =>
      cases B9 with
      | true =>
        by_cases hd : long < d + 7
        · obtain rfl : true = R := by rw [HM.out, decide_eq_true hd]; rfl
          go_wp2_with (first
            | (go_at_call 18; (with_reducible refine (C8.out _ HB0.out).mono ?_); rintro e w1 ⟨rfl, rfl⟩)
            | (go_at_call 18; (with_reducible refine (C9.out _ HB0.out).mono ?_); rintro e w1 ⟨rfl, rfl⟩))
          go_ret
          exact ⟨rfl, HB0.out⟩
        · obtain rfl : BN = R := by rw [HM.out, decide_eq_false hd]; simp
          have hb : decide (long < d + 7) = false := decide_eq_false hd
          go_wp2_with (first
            | (go_at_call 18; (with_reducible refine (C8.out _ HB0.out).mono ?_); rintro e w1 ⟨rfl, rfl⟩)
            | (go_at_call 18; (with_reducible refine (C9.out _ HB0.out).mono ?_); rintro e w1 ⟨rfl, rfl⟩)
            | (go_at_call 45; (with_reducible refine (CN.out _ HB0.out).mono ?_); rintro e w1 ⟨rfl, hb⟩; have HB1 := Lib.hid (thenB HB0.out hb); clear hb))
          go_ret
          exact ⟨rfl, HB1.out⟩
      | false =>
        obtain rfl : BN = R := by rw [HM.out]; simp
        go_wp2_with (first
          | (go_at_call 18; (with_reducible refine (C8.out _ HB0.out).mono ?_); rintro e w1 ⟨rfl, rfl⟩)
          | (go_at_call 18; (with_reducible refine (C9.out _ HB0.out).mono ?_); rintro e w1 ⟨rfl, rfl⟩)
          | (go_at_call 45; (with_reducible refine (CN.out _ HB0.out).mono ?_); rintro e w1 ⟨rfl, hb⟩; have HB1 := Lib.hid (thenB HB0.out hb); clear hb))
        go_ret
        exact ⟨rfl, HB1.out⟩
end Go.Proofs.YtdnbnpknmdcljaaGreatDoor
