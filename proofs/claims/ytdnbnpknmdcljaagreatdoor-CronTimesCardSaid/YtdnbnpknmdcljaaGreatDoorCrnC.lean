/- cron.Check. -/
import Derived.Test.YtdnbnpknmdcljaaGreatDoorCrnB
import Derived.Deep.Cut
import Derived.Deep.CutRange
namespace Go.Proofs.YtdnbnpknmdcljaaGreatDoor
open Go.RowKit
def okN (b : Bool) : Int := cond b 0 1
/-- A Cron's cells in its box. -/
def BoxC (w : World) (B : Nat) (v0 v1 v2 : Value) (A : Bool) (v4 : Value) (La : Bool) (v6 : Value) (Aw : Bool) (v8 v9 v10 : Value) : Prop :=
  B < w.heap.size ∧ w.cell? ⟨B, 0, none⟩ = some v0 ∧ w.cell? ⟨B, 1, none⟩ = some v1 ∧ w.cell? ⟨B, 2, none⟩ = some v2 ∧ w.cell? ⟨B, 3, none⟩ = some (.bool A) ∧ w.cell? ⟨B, 4, none⟩ = some v4 ∧ w.cell? ⟨B, 5, none⟩ = some (.bool La) ∧ w.cell? ⟨B, 6, none⟩ = some v6 ∧ w.cell? ⟨B, 7, none⟩ = some (.bool Aw) ∧ w.cell? ⟨B, 8, none⟩ = some v8 ∧ w.cell? ⟨B, 9, none⟩ = some v9 ∧ w.cell? ⟨B, 10, none⟩ = some v10
theorem BoxC.call {w w' : World} {B : Nat} {v0 v1 v2 : Value} {A : Bool} {v4 : Value} {La : Bool} {v6 : Value} {Aw : Bool} {v8 v9 v10 : Value} (h : BoxC w B v0 v1 v2 A v4 La v6 Aw v8 v9 v10) (hb : Below w.heap.size w w') : BoxC w' B v0 v1 v2 A v4 La v6 Aw v8 v9 v10 := by
  obtain ⟨h, h0, h1, h2, h3, h4, h5, h6, h7, h8, h9, h10⟩ := h
  have k := fun o => hb.cell (p := ⟨B, o, none⟩) h
  exact ⟨Nat.lt_of_lt_of_le h hb.size, (k 0).trans h0, (k 1).trans h1, (k 2).trans h2, (k 3).trans h3, (k 4).trans h4, (k 5).trans h5, (k 6).trans h6, (k 7).trans h7, (k 8).trans h8, (k 9).trans h9, (k 10).trans h10⟩
set_option maxRecDepth 100000 in
set_option maxHeartbeats 16000000 in
theorem check_any (c : Cron) (v0 v1 v2 v4 v6 v8 v9 v10 : Value) (w : World) (h : CronR w c v0 v1 v2 v4 v6 v8 v9 v10) (hz : CronZ c) :
    Calls Tryz.prog 15 #[cronV c v0 v1 v2 v4 v6 v8 v9 v10] w fun e w' => e = .returned (errV (okN c.ok)) ∧ Below w.heap.size w w' := by
  obtain ⟨mi, ho, mo, A, da, La, ne, Aw, wd, lo, nt⟩ := c
  obtain ⟨zmi, zho, zmo, zda, zne, zwd, zlo, znt⟩ := hz
  obtain ⟨hmi, hho, hmo, hda, hne, hwd, hlo, hnt⟩ := h
  dsimp only at zmi zho zmo zda zne zwd zlo znt hmi hho hmo hda hne hwd hlo hnt
  obtain ⟨R, hR⟩ : ∃ R, (Cron.mk mi ho mo A da La ne Aw wd lo nt).ok = R := ⟨_, rfl⟩
  rw [hR]
  simp only [Cron.ok, Cron.head, Cron.month, Cron.week] at hR
  dsimp only [cronV]
  obtain ⟨o0, p0, rfl, -, -⟩ := id hmi
  obtain ⟨n0, hn0⟩ : ∃ n, mi.length = n := ⟨_, rfl⟩
  rw [hn0] at hmi zmi hR ⊢
  obtain ⟨o1, p1, rfl, -, -⟩ := id hho
  obtain ⟨n1, hn1⟩ : ∃ n, ho.length = n := ⟨_, rfl⟩
  rw [hn1] at hho zho hR ⊢
  obtain ⟨o2, p2, rfl, -, -⟩ := id hmo
  obtain ⟨n2, hn2⟩ : ∃ n, mo.length = n := ⟨_, rfl⟩
  rw [hn2] at hmo zmo hR ⊢
  obtain ⟨o4, p4, rfl, -, -⟩ := id hda
  obtain ⟨n4, hn4⟩ : ∃ n, da.length = n := ⟨_, rfl⟩
  rw [hn4] at hda zda hR ⊢
  obtain ⟨o6, p6, rfl, -, -⟩ := id hne
  obtain ⟨n6, hn6⟩ : ∃ n, ne.length = n := ⟨_, rfl⟩
  rw [hn6] at hne zne hR ⊢
  obtain ⟨o8, p8, rfl, -, -⟩ := id hwd
  obtain ⟨n8, hn8⟩ : ∃ n, wd.length = n := ⟨_, rfl⟩
  rw [hn8] at hwd zwd hR ⊢
  obtain ⟨o9, p9, rfl, -, -⟩ := id hlo
  obtain ⟨n9, hn9⟩ : ∃ n, lo.length = n := ⟨_, rfl⟩
  rw [hn9] at hlo zlo hR ⊢
  obtain ⟨o10, p10, rfl, -, -⟩ := id hnt
  obtain ⟨n10, hn10⟩ : ∃ n, nt.length = n := ⟨_, rfl⟩
  rw [hn10] at hnt znt hR ⊢
  obtain ⟨wB, hwB⟩ : ∃ x, w.alloc (.cells #[.slice o0 n0 p0, .slice o1 n1 p1, .slice o2 n2 p2, .bool A, .slice o4 n4 p4, .bool La, .slice o6 n6 p6, .bool Aw, .slice o8 n8 p8, .slice o9 n9 p9, .slice o10 n10 p10] 25) = x := ⟨_, rfl⟩
  have HBB : Hid (Below w.heap.size w wB) := Lib.hid (by rw [← hwB]; exact (Below.refl _ _).alloc (Nat.le_refl _) _)
  have hsz : wB.heap.size = w.heap.size + 1 := by rw [← hwB]; simp
  have q0 : wB.cell? ⟨w.heap.size, 0, none⟩ = some (.slice o0 n0 p0) := by rw [← hwB]; simp
  have q1 : wB.cell? ⟨w.heap.size, 1, none⟩ = some (.slice o1 n1 p1) := by rw [← hwB]; simp
  have q2 : wB.cell? ⟨w.heap.size, 2, none⟩ = some (.slice o2 n2 p2) := by rw [← hwB]; simp
  have q3 : wB.cell? ⟨w.heap.size, 3, none⟩ = some (.bool A) := by rw [← hwB]; simp
  have q4 : wB.cell? ⟨w.heap.size, 4, none⟩ = some (.slice o4 n4 p4) := by rw [← hwB]; simp
  have q5 : wB.cell? ⟨w.heap.size, 5, none⟩ = some (.bool La) := by rw [← hwB]; simp
  have q6 : wB.cell? ⟨w.heap.size, 6, none⟩ = some (.slice o6 n6 p6) := by rw [← hwB]; simp
  have q7 : wB.cell? ⟨w.heap.size, 7, none⟩ = some (.bool Aw) := by rw [← hwB]; simp
  have q8 : wB.cell? ⟨w.heap.size, 8, none⟩ = some (.slice o8 n8 p8) := by rw [← hwB]; simp
  have q9 : wB.cell? ⟨w.heap.size, 9, none⟩ = some (.slice o9 n9 p9) := by rw [← hwB]; simp
  have q10 : wB.cell? ⟨w.heap.size, 10, none⟩ = some (.slice o10 n10 p10) := by rw [← hwB]; simp
  obtain ⟨r0, hr0⟩ : ∃ x, risB mi 0 59 = x := ⟨_, rfl⟩
  have hlen0 : mi.length ≤ 140737488355328 := by rw [hn0]; exact zmi
  have C0 : Hid (∀ w0, Below wB.heap.size wB w0 → Calls Tryz.prog 28 #[.slice o0 n0 p0, .int .i64 0, .int .i64 59] w0 fun e w' => e = .returned (.bool r0) ∧ Below w0.heap.size w0 w') := Lib.hid fun w0 hb => hr0 ▸ rises_any _ mi 0 59 w0 ((hmi.call HBB.out).call hb) hlen0
  rw [hr0] at hR
  obtain ⟨r1, hr1⟩ : ∃ x, risB ho 0 23 = x := ⟨_, rfl⟩
  have hlen1 : ho.length ≤ 140737488355328 := by rw [hn1]; exact zho
  have C1 : Hid (∀ w0, Below wB.heap.size wB w0 → Calls Tryz.prog 28 #[.slice o1 n1 p1, .int .i64 0, .int .i64 23] w0 fun e w' => e = .returned (.bool r1) ∧ Below w0.heap.size w0 w') := Lib.hid fun w0 hb => hr1 ▸ rises_any _ ho 0 23 w0 ((hho.call HBB.out).call hb) hlen1
  rw [hr1] at hR
  obtain ⟨r2, hr2⟩ : ∃ x, risB mo 1 12 = x := ⟨_, rfl⟩
  have hlen2 : mo.length ≤ 140737488355328 := by rw [hn2]; exact zmo
  have C2 : Hid (∀ w0, Below wB.heap.size wB w0 → Calls Tryz.prog 28 #[.slice o2 n2 p2, .int .i64 1, .int .i64 12] w0 fun e w' => e = .returned (.bool r2) ∧ Below w0.heap.size w0 w') := Lib.hid fun w0 hb => hr2 ▸ rises_any _ mo 1 12 w0 ((hmo.call HBB.out).call hb) hlen2
  rw [hr2] at hR
  obtain ⟨r4, hr4⟩ : ∃ x, risB da 1 31 = x := ⟨_, rfl⟩
  have hlen4 : da.length ≤ 140737488355328 := by rw [hn4]; exact zda
  have C4 : Hid (∀ w0, Below wB.heap.size wB w0 → Calls Tryz.prog 28 #[.slice o4 n4 p4, .int .i64 1, .int .i64 31] w0 fun e w' => e = .returned (.bool r4) ∧ Below w0.heap.size w0 w') := Lib.hid fun w0 hb => hr4 ▸ rises_any _ da 1 31 w0 ((hda.call HBB.out).call hb) hlen4
  rw [hr4] at hR
  obtain ⟨r6, hr6⟩ : ∃ x, risB ne 1 31 = x := ⟨_, rfl⟩
  have hlen6 : ne.length ≤ 140737488355328 := by rw [hn6]; exact zne
  have C6 : Hid (∀ w0, Below wB.heap.size wB w0 → Calls Tryz.prog 28 #[.slice o6 n6 p6, .int .i64 1, .int .i64 31] w0 fun e w' => e = .returned (.bool r6) ∧ Below w0.heap.size w0 w') := Lib.hid fun w0 hb => hr6 ▸ rises_any _ ne 1 31 w0 ((hne.call HBB.out).call hb) hlen6
  rw [hr6] at hR
  obtain ⟨r8, hr8⟩ : ∃ x, risB wd 1 7 = x := ⟨_, rfl⟩
  have hlen8 : wd.length ≤ 140737488355328 := by rw [hn8]; exact zwd
  have C8 : Hid (∀ w0, Below wB.heap.size wB w0 → Calls Tryz.prog 28 #[.slice o8 n8 p8, .int .i64 1, .int .i64 7] w0 fun e w' => e = .returned (.bool r8) ∧ Below w0.heap.size w0 w') := Lib.hid fun w0 hb => hr8 ▸ rises_any _ wd 1 7 w0 ((hwd.call HBB.out).call hb) hlen8
  rw [hr8] at hR
  obtain ⟨r9, hr9⟩ : ∃ x, risB lo 1 7 = x := ⟨_, rfl⟩
  have hlen9 : lo.length ≤ 140737488355328 := by rw [hn9]; exact zlo
  have C9 : Hid (∀ w0, Below wB.heap.size wB w0 → Calls Tryz.prog 28 #[.slice o9 n9 p9, .int .i64 1, .int .i64 7] w0 fun e w' => e = .returned (.bool r9) ∧ Below w0.heap.size w0 w') := Lib.hid fun w0 hb => hr9 ▸ rises_any _ lo 1 7 w0 ((hlo.call HBB.out).call hb) hlen9
  rw [hr9] at hR
  obtain ⟨D, hD⟩ : ∃ x, decide (0 < n4 + n6) = x := ⟨_, rfl⟩
  obtain ⟨W, hW⟩ : ∃ x, decide (0 < n8 + n9 + n10) = x := ⟨_, rfl⟩
  rw [hD, hW] at hR
  have HNT := Lib.hid (hnt.call HBB.out)
  have HN10 := Lib.hid hn10
  have HwB := Lib.hid hwB
  clear hwB hnt hn10 hmi hr0 hlen0 hn0 hho hr1 hlen1 hn1 hmo hr2 hlen2 hn2 hda hr4 hlen4 hn4 hne hr6 hlen6 hn6 hwd hr8 hlen8 hn8 hlo hr9 hlen9 hn9
  have w1 : IntKind.i64.wrap ((n8 : Int) + (n9 : Int)) = (n8 : Int) + (n9 : Int) := IntWalk.i64_in _ (by omega)
  have w2 : IntKind.i64.wrap ((n8 : Int) + (n9 : Int) + (n10 : Int)) = (n8 : Int) + (n9 : Int) + (n10 : Int) := IntWalk.i64_in _ (by omega)
  have w3 : IntKind.i64.wrap ((n4 : Int) + (n6 : Int)) = (n4 : Int) + (n6 : Int) := IntWalk.i64_in _ (by omega)
  have dD : decide ((0 : Int) < (n4 : Int) + (n6 : Int)) = D := by rw [← hD]; exact decide_eq_decide.2 (by omega)
  have dW : decide ((0 : Int) < (n8 : Int) + (n9 : Int) + (n10 : Int)) = W := by rw [← hW]; exact decide_eq_decide.2 (by omega)
  have HR := Lib.hid hR
  clear hR hD hW
  have HC : Hid (BoxC wB w.heap.size (.slice o0 n0 p0) (.slice o1 n1 p1) (.slice o2 n2 p2) A (.slice o4 n4 p4) La (.slice o6 n6 p6) Aw (.slice o8 n8 p8) (.slice o9 n9 p9) (.slice o10 n10 p10)) := Lib.hid ⟨by omega, q0, q1, q2, q3, q4, q5, q6, q7, q8, q9, q10⟩
  have e0 := cell_regrown q0
  have e1 := cell_regrown q1
  have e2 := cell_regrown q2
  have e3 := cell_regrown q3
  have e4 := cell_regrown q4
  have e5 := cell_regrown q5
  have e6 := cell_regrown q6
  have e7 := cell_regrown q7
  have e8 := cell_regrown q8
  have e9 := cell_regrown q9
  have e10 := cell_regrown q10
  clear q0 q1 q2 q3 q4 q5 q6 q7 q8 q9 q10
  go_enter Tryz.func15, Tryz.ntmps15
  go_wp2_with fail
  rw [HwB.out]
  go_upto_region 1 with fail
  go_cut [0, 3, 4] from 7 to 30 (fun _ s3 s4 wx => s3 = .bool W ∧ s4 = .bool (D || La) ∧ Hid (Below wB.heap.size wB wx))
  case first =>
    cases D
    · refine wp_region_below (by kernel_rfl) (by kernel_rfl) ?_
      repeat (go_big_quiet_step (fail))
      refine wpQuiet_nil ?_
      intro w1 hb1
      have HB := Lib.hid hb1
      clear hb1
      go_wp2_with fail
      go_meet
      exact ⟨rfl, by simp, HB⟩
    · refine wp_region_below (by kernel_rfl) (by kernel_rfl) ?_
      repeat (go_big_quiet_step (fail))
      refine wpQuiet_nil ?_
      intro w1 hb1
      have HB := Lib.hid hb1
      clear hb1
      go_wp2_with fail
      go_meet
      exact ⟨rfl, by simp, HB⟩
  case rest =>
    obtain ⟨rfl, rfl, HB⟩ := hcut
    clear e0 e1 e2 e3 e4 e5 e6 e7 e8 e9 e10
    have HC0 := HC
    have HC := Lib.hid (HC.out.call HB.out)
    obtain ⟨qz, q0, q1, q2, q3, q4, q5, q6, q7, q8, q9, q10⟩ := HC.out
    obtain ⟨Mo, hMo⟩ : ∃ x, (D || La) = x := ⟨_, rfl⟩
    rw [hMo]
    have HR := Lib.hid (hMo ▸ HR.out)
    clear hMo
    obtain ⟨Hd, hHd⟩ : ∃ x, (!(r0 && r1 && r2 && r4 && r6 && r8 && r9 && (A != Mo) && (Aw != W) && decide (0 < n0) && decide (0 < n1) && decide (0 < n2))) = x := ⟨_, rfl⟩
    have HR := Lib.hid (show ((!Hd) && nthB nt) = R by rw [← hHd, Bool.not_not]; exact HR.out)
    have HHd := Lib.hid hHd
    clear hHd
    have E0 : ((n0 : Int) == 0) = !decide (0 < n0) := by rw [Bool.eq_iff_iff]; simp <;> omega
    have E1 : ((n1 : Int) == 0) = !decide (0 < n1) := by rw [Bool.eq_iff_iff]; simp <;> omega
    have E2 : ((n2 : Int) == 0) = !decide (0 < n2) := by rw [Bool.eq_iff_iff]; simp <;> omega
    go_upto_region 2 with fail
    go_cut [0, 3, 4, 100] from 31 to 99 (fun _ _ _ s wx => s = .bool Hd ∧ Hid (Below wB.heap.size wB wx))
    case first =>
      conv => arg 2; arg 2; whnf
      conv => arg 2; arg 2; arg 1; dsimp only [List.append, HAppend.hAppend, Append.append]
      go_wp2_with (first | (go_at_call 28; refine Calls.mono (by with_reducible exact C0.out _ HB.out) ?_; rintro e wx ⟨rfl, hb⟩; have HB := Lib.hid (thenB HB.out hb); have HC := Lib.hid (HC.out.call hb); clear hb; clear qz q0 q1 q2 q3 q4 q5 q6 q7 q8 q9 q10; obtain ⟨qz, q0, q1, q2, q3, q4, q5, q6, q7, q8, q9, q10⟩ := HC.out; try dsimp only) | (go_at_call 28; refine Calls.mono (by with_reducible exact C1.out _ HB.out) ?_; rintro e wx ⟨rfl, hb⟩; have HB := Lib.hid (thenB HB.out hb); have HC := Lib.hid (HC.out.call hb); clear hb; clear qz q0 q1 q2 q3 q4 q5 q6 q7 q8 q9 q10; obtain ⟨qz, q0, q1, q2, q3, q4, q5, q6, q7, q8, q9, q10⟩ := HC.out; try dsimp only) | (go_at_call 28; refine Calls.mono (by with_reducible exact C2.out _ HB.out) ?_; rintro e wx ⟨rfl, hb⟩; have HB := Lib.hid (thenB HB.out hb); have HC := Lib.hid (HC.out.call hb); clear hb; clear qz q0 q1 q2 q3 q4 q5 q6 q7 q8 q9 q10; obtain ⟨qz, q0, q1, q2, q3, q4, q5, q6, q7, q8, q9, q10⟩ := HC.out; try dsimp only) | (go_at_call 28; refine Calls.mono (by with_reducible exact C4.out _ HB.out) ?_; rintro e wx ⟨rfl, hb⟩; have HB := Lib.hid (thenB HB.out hb); have HC := Lib.hid (HC.out.call hb); clear hb; clear qz q0 q1 q2 q3 q4 q5 q6 q7 q8 q9 q10; obtain ⟨qz, q0, q1, q2, q3, q4, q5, q6, q7, q8, q9, q10⟩ := HC.out; try dsimp only) | (go_at_call 28; refine Calls.mono (by with_reducible exact C6.out _ HB.out) ?_; rintro e wx ⟨rfl, hb⟩; have HB := Lib.hid (thenB HB.out hb); have HC := Lib.hid (HC.out.call hb); clear hb; clear qz q0 q1 q2 q3 q4 q5 q6 q7 q8 q9 q10; obtain ⟨qz, q0, q1, q2, q3, q4, q5, q6, q7, q8, q9, q10⟩ := HC.out; try dsimp only) | (go_at_call 28; refine Calls.mono (by with_reducible exact C8.out _ HB.out) ?_; rintro e wx ⟨rfl, hb⟩; have HB := Lib.hid (thenB HB.out hb); have HC := Lib.hid (HC.out.call hb); clear hb; clear qz q0 q1 q2 q3 q4 q5 q6 q7 q8 q9 q10; obtain ⟨qz, q0, q1, q2, q3, q4, q5, q6, q7, q8, q9, q10⟩ := HC.out; try dsimp only) | (go_at_call 28; refine Calls.mono (by with_reducible exact C9.out _ HB.out) ?_; rintro e wx ⟨rfl, hb⟩; have HB := Lib.hid (thenB HB.out hb); have HC := Lib.hid (HC.out.call hb); clear hb; clear qz q0 q1 q2 q3 q4 q5 q6 q7 q8 q9 q10; obtain ⟨qz, q0, q1, q2, q3, q4, q5, q6, q7, q8, q9, q10⟩ := HC.out; try dsimp only))
      all_goals go_meet
      all_goals exact ⟨by rw [← HHd.out]; simp_all [bne], HB⟩
    case rest =>
      obtain ⟨rfl, HB⟩ := hcut
      clear qz q0 q1 q2 q3 q4 q5 q6 q7 q8 q9 q10
      have HC := Lib.hid (HC0.out.call HB.out)
      obtain ⟨qz, q0, q1, q2, q3, q4, q5, q6, q7, q8, q9, q10⟩ := HC.out
      clear HHd
      cases Hd
      rotate_left
      · go_wp2_with fail
        go_ret
        exact ⟨by rw [show R = false from by rw [← HR.out]; simp]; rfl, HBB.out.trans (HB.out.mono (by omega))⟩
      · have HR := Lib.hid (show nthB nt = R from by rw [← HR.out]; simp)
        clear E0 E1 E2
        go_wp2_with fail
        go_loopw [105] (fun c wr => ∃ k : Nat, c = .int .i64 (k : Int) ∧ k ≤ n10 ∧ Hid (∀ j, j < k → NthAt nt j) ∧ Hid (Below wB.heap.size wB wr)) (fun c _ => n10 - (intOf c).toNat)
        case atStart => exact ⟨0, rfl, by omega, Lib.hid fun j hj => absurd hj (Nat.not_lt_zero j), HB⟩
        case round =>
          clear HB qz q0 q1 q2 q3 q4 q5 q6 q7 q8 q9 q10
          obtain ⟨k, rfl, hk, HK, HB⟩ := hrel
          obtain ⟨wA, rfl⟩ : ∃ wo : World, wo = wr := ⟨_, rfl⟩
          have HC := Lib.hid (HC0.out.call HB.out)
          obtain ⟨qz, q0, q1, q2, q3, q4, q5, q6, q7, q8, q9, q10⟩ := HC.out
          by_cases hkn : k < n10
          · have hkl : k < nt.length := by rw [HN10.out]; exact hkn
            obtain ⟨ad, rfl, hc1, hc2⟩ := (HNT.out.call HB.out).at hkl
            have HG : Hid (NthAt nt k ↔ 1 ≤ (nt.getD k (0, 0)).1 ∧ (nt.getD k (0, 0)).1 ≤ 5 ∧ 1 ≤ (nt.getD k (0, 0)).2 ∧ (nt.getD k (0, 0)).2 ≤ 7 ∧ (0 < k → 10 * (nt.getD (k - 1) (0, 0)).2 + (nt.getD (k - 1) (0, 0)).1 < 10 * (nt.getD k (0, 0)).2 + (nt.getD k (0, 0)).1)) := Lib.hid Iff.rfl
            have HP : Hid (0 < k → (wA.cell? (ad.add ((k - 1) * 2)) = some (.int .i64 (nt.getD (k - 1) (0, 0)).1) ∧ wA.cell? { block := (ad.add ((k - 1) * 2)).block, off := (ad.add ((k - 1) * 2)).off + 1 } = some (.int .i64 (nt.getD (k - 1) (0, 0)).2)) ∧ 1 ≤ (nt.getD (k - 1) (0, 0)).1 ∧ (nt.getD (k - 1) (0, 0)).1 ≤ 5 ∧ 1 ≤ (nt.getD (k - 1) (0, 0)).2 ∧ (nt.getD (k - 1) (0, 0)).2 ≤ 7) := Lib.hid fun h0 => by
              obtain ⟨ad', e, h1, h2⟩ := (HNT.out.call HB.out).at (show k - 1 < nt.length by omega)
              cases e
              have h3 := HK.out (k - 1) (by omega)
              exact ⟨⟨h1, h2⟩, h3.1, h3.2.1, h3.2.2.1, h3.2.2.2.1⟩
            have HF : Hid (¬ NthAt nt k → false = R) := Lib.hid fun h => by rw [← HR.out, nth_false hkl h]
            have HT : Hid (NthAt nt k → ∀ j, j < k + 1 → NthAt nt j) := Lib.hid fun h j hj => by
              rcases Nat.lt_or_ge j k with h1 | h1
              · exact HK.out j h1
              · obtain rfl : j = k := by omega
                exact h
            clear hkl
            obtain ⟨N, hN⟩ : ∃ x, (nt.getD k (0, 0)).1 = x := ⟨_, rfl⟩
            obtain ⟨Y, hY⟩ : ∃ x, (nt.getD k (0, 0)).2 = x := ⟨_, rfl⟩
            rw [hN] at hc1 HG
            rw [hY] at hc2 HG
            clear hN hY
            obtain ⟨wX, hwX⟩ : ∃ x, wA.alloc (.cells #[.int .i64 N, .int .i64 Y] 59) = x := ⟨_, rfl⟩
            have x0 : wX.cell? ⟨wA.heap.size, 0, none⟩ = some (.int .i64 N) := by rw [← hwX]; simp
            have x1 : wX.cell? ⟨wA.heap.size, 1, none⟩ = some (.int .i64 Y) := by rw [← hwX]; simp
            have HXB : Hid (Below wB.heap.size wA wX) := Lib.hid (by rw [← hwX]; exact (Below.refl _ _).alloc HB.out.size _)
            have HXA : Hid (Below wA.heap.size wA wX) := Lib.hid (by rw [← hwX]; exact (Below.refl _ _).alloc (Nat.le_refl _) _)
            have HXZ : Hid (wB.heap.size ≤ wX.heap.size) := Lib.hid (Nat.le_trans HB.out.size HXA.out.size)
            have y10 := (HXA.out.cell (p := ⟨w.heap.size, 10, none⟩) qz).trans q10
            have HwX := Lib.hid hwX
            clear hwX
            have s0 := cell_regrown x0
            have s1 := cell_regrown x1
            have s2 := cell_regrown y10
            by_cases g1 : N < 1
            · have d1 : decide (N < 1) = true := decide_eq_true g1
              obtain rfl := HF.out fun h => by have := (HG.out.1 h).1; omega
              go_wp2_with fail
              rw [HwX.out]
              refine wp_region_below (by kernel_rfl) (by kernel_rfl) ?_
              repeat (go_big_quiet_step (fail))
              refine wpQuiet_nil ?_
              intro w1 hb1
              have HB := Lib.hid (HB.out.trans (HXB.out.trans (hb1.mono HXZ.out)))
              clear hb1
              go_wp2_with fail
              go_ret
              exact ⟨rfl, HBB.out.trans (HB.out.mono (by omega))⟩
            · have d1 : decide (N < 1) = false := decide_eq_false g1
              by_cases g2 : 5 < N
              · have d2 : decide (5 < N) = true := decide_eq_true g2
                obtain rfl := HF.out fun h => by have := (HG.out.1 h).2.1; omega
                go_wp2_with fail
                rw [HwX.out]
                refine wp_region_below (by kernel_rfl) (by kernel_rfl) ?_
                repeat (go_big_quiet_step (fail))
                refine wpQuiet_nil ?_
                intro w1 hb1
                have HB := Lib.hid (HB.out.trans (HXB.out.trans (hb1.mono HXZ.out)))
                clear hb1
                go_wp2_with fail
                go_ret
                exact ⟨rfl, HBB.out.trans (HB.out.mono (by omega))⟩
              · have d2 : decide (5 < N) = false := decide_eq_false g2
                by_cases g3 : Y < 1
                · have d3 : decide (Y < 1) = true := decide_eq_true g3
                  obtain rfl := HF.out fun h => by have := (HG.out.1 h).2.2.1; omega
                  go_wp2_with fail
                  rw [HwX.out]
                  refine wp_region_below (by kernel_rfl) (by kernel_rfl) ?_
                  repeat (go_big_quiet_step (fail))
                  refine wpQuiet_nil ?_
                  intro w1 hb1
                  have HB := Lib.hid (HB.out.trans (HXB.out.trans (hb1.mono HXZ.out)))
                  clear hb1
                  go_wp2_with fail
                  go_ret
                  exact ⟨rfl, HBB.out.trans (HB.out.mono (by omega))⟩
                · have d3 : decide (Y < 1) = false := decide_eq_false g3
                  by_cases g4 : 7 < Y
                  · have d4 : decide (7 < Y) = true := decide_eq_true g4
                    obtain rfl := HF.out fun h => by have := (HG.out.1 h).2.2.2.1; omega
                    go_wp2_with fail
                    rw [HwX.out]
                    refine wp_region_below (by kernel_rfl) (by kernel_rfl) ?_
                    repeat (go_big_quiet_step (fail))
                    refine wpQuiet_nil ?_
                    intro w1 hb1
                    have HB := Lib.hid (HB.out.trans (HXB.out.trans (hb1.mono HXZ.out)))
                    clear hb1
                    go_wp2_with fail
                    go_ret
                    exact ⟨rfl, HBB.out.trans (HB.out.mono (by omega))⟩
                  · have d4 : decide (7 < Y) = false := decide_eq_false g4
                    by_cases g5 : k = 0
                    · have d5 : decide ((0 : Int) < (k : Int)) = false := decide_eq_false (by omega)
                      have HT := Lib.hid (HT.out (HG.out.2 ⟨by omega, by omega, by omega, by omega, fun h => by omega⟩))
                      have hk1 : wA.cell? ad = some (.int .i64 N) := by have h := hc1; rw [g5] at h; simp only [Addr.add, Nat.zero_mul, Nat.add_zero] at h; exact h
                      have hk2 : wA.cell? { block := ad.block, off := ad.off + 1 } = some (.int .i64 Y) := by have h := hc2; rw [g5] at h; simp only [Addr.add, Nat.zero_mul, Nat.add_zero] at h; exact h
                      go_wp2_with fail
                      rw [HwX.out]
                      refine wp_region_below (by kernel_rfl) (by kernel_rfl) ?_
                      repeat (go_big_quiet_step (fail))
                      refine wpQuiet_nil ?_
                      intro w1 hb1
                      have HB := Lib.hid (HB.out.trans (HXB.out.trans (hb1.mono HXZ.out)))
                      clear hb1
                      go_wp2_with fail
                      go_roundw
                      case rel => exact ⟨k + 1, by go_num, by omega, HT, HB⟩
                      case measure => simp [intOf]; omega
                    · have d5 : decide ((0 : Int) < (k : Int)) = true := decide_eq_true (by omega)
                      have hk0 : 0 < k := by omega
                      obtain ⟨⟨hp1, hp2⟩, b1, b2, b3, b4⟩ := HP.out (by omega)
                      obtain ⟨q, hq⟩ : ∃ q, k = q + 1 := ⟨k - 1, by omega⟩
                      have hq1 : k - 1 = q := by omega
                      rw [hq1] at hp1 hp2 b1 b2 b3 b4 HG
                      obtain ⟨P1, hP1⟩ : ∃ x, (nt.getD q (0, 0)).1 = x := ⟨_, rfl⟩
                      obtain ⟨P2, hP2⟩ : ∃ x, (nt.getD q (0, 0)).2 = x := ⟨_, rfl⟩
                      rw [hP1] at hp1 b1 b2 HG
                      rw [hP2] at hp2 b3 b4 HG
                      have e1 : (k : Int) - 1 = (q : Int) := by omega
                      have e2 : IntKind.i64.wrap ((k : Int) - 1) = (q : Int) := by rw [e1]; exact IntWalk.i64_in _ (by omega)
                      have e3 : (q : Int) < (n10 : Int) := by omega
                      have e4 : IntKind.i64.wrap (10 * P2) = 10 * P2 := IntWalk.i64_in _ (by omega)
                      have e5 : IntKind.i64.wrap (10 * P2 + P1) = 10 * P2 + P1 := IntWalk.i64_in _ (by omega)
                      have e6 : IntKind.i64.wrap (10 * Y) = 10 * Y := IntWalk.i64_in _ (by omega)
                      have e7 : IntKind.i64.wrap (10 * Y + N) = 10 * Y + N := IntWalk.i64_in _ (by omega)
                      have s3 := cell_regrown ((HXA.out.cell (World.block_lt_of_cell? _ _ hp1)).trans hp1)
                      have s4 := cell_regrown ((HXA.out.cell (World.block_lt_of_cell? _ _ hp2)).trans hp2)
                      clear hP1 hP2 hq hq1
                      by_cases g6 : 10 * Y + N ≤ 10 * P2 + P1
                      · have d6 : decide (10 * Y + N ≤ 10 * P2 + P1) = true := decide_eq_true g6
                        obtain rfl := HF.out fun h => by have := (HG.out.1 h).2.2.2.2 (by omega); omega
                        go_wp2_with fail
                        rw [HwX.out]
                        refine wp_region_below (by kernel_rfl) (by kernel_rfl) ?_
                        repeat (go_big_quiet_step (fail))
                        refine wpQuiet_nil ?_
                        intro w1 hb1
                        have HB := Lib.hid (HB.out.trans (HXB.out.trans (hb1.mono HXZ.out)))
                        clear hb1
                        go_wp2_with fail
                        go_ret
                        exact ⟨rfl, HBB.out.trans (HB.out.mono (by omega))⟩
                      · have d6 : decide (10 * Y + N ≤ 10 * P2 + P1) = false := decide_eq_false g6
                        have HT := Lib.hid (HT.out (HG.out.2 ⟨by omega, by omega, by omega, by omega, fun _ => by omega⟩))
                        go_wp2_with fail
                        rw [HwX.out]
                        refine wp_region_below (by kernel_rfl) (by kernel_rfl) ?_
                        repeat (go_big_quiet_step (fail))
                        refine wpQuiet_nil ?_
                        intro w1 hb1
                        have HB := Lib.hid (HB.out.trans (HXB.out.trans (hb1.mono HXZ.out)))
                        clear hb1
                        go_wp2_with fail
                        go_roundw
                        case rel => exact ⟨k + 1, by go_num, by omega, HT, HB⟩
                        case measure => simp [intOf]; omega
          · obtain rfl : k = n10 := by omega
            have hE : true = R := by rw [← HR.out, nth_true fun j hj => HK.out j (by rw [HN10.out] at hj; exact hj)]
            subst hE
            go_wp2_with fail
            go_ret
            exact ⟨rfl, HBB.out.trans (HB.out.mono (by omega))⟩
end Go.Proofs.YtdnbnpknmdcljaaGreatDoor
