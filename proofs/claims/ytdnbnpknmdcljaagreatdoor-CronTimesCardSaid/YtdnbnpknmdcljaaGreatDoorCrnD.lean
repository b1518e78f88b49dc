/- The document's CronCheck. -/
import Derived.Test.YtdnbnpknmdcljaaGreatDoorCrnC
namespace Go.Proofs.YtdnbnpknmdcljaaGreatDoor
open Go.RowKit
def OkSt (q Hd : Bool) (nt : List (Int × Int)) (k : Nat) : Prop := q = true ↔ (Hd = true ∧ ∀ j, j < k → NthAt nt j)
set_option maxRecDepth 100000 in
set_option maxHeartbeats 16000000 in
theorem rcheck_any (c : Cron) (v0 v1 v2 v4 v6 v8 v9 v10 : Value) (w : World) (h : CronR w c v0 v1 v2 v4 v6 v8 v9 v10) (hz : CronZ c) :
    Calls Tryz.prog 10 #[cronV c v0 v1 v2 v4 v6 v8 v9 v10] w fun e w' => e = .returned (.int .i64 (okN c.ok)) ∧ Below w.heap.size w w' := by
  obtain ⟨mi, ho, mo, A, da, La, ne, Aw, wd, lo, nt⟩ := c
  obtain ⟨zmi, zho, zmo, zda, zne, zwd, zlo, znt⟩ := hz
  obtain ⟨hmi, hho, hmo, hda, hne, hwd, hlo, hnt⟩ := h
  dsimp only at zmi zho zmo zda zne zwd zlo znt hmi hho hmo hda hne hwd hlo hnt
  obtain ⟨R, hR⟩ : ∃ R, (Cron.mk mi ho mo A da La ne Aw wd lo nt).ok = R := ⟨_, rfl⟩
  rw [hR]
  simp only [Cron.ok, Cron.head, Cron.month, Cron.week] at hR
  dsimp only [cronV]
  obtain ⟨o0, p0, rfl, -, -⟩ := id hmi
  obtain ⟨n0, hn0⟩ : ∃ n, mi.length = n := ⟨_, rfl⟩
  rw [hn0] at hmi zmi hR ⊢
  obtain ⟨o1, p1, rfl, -, -⟩ := id hho
  obtain ⟨n1, hn1⟩ : ∃ n, ho.length = n := ⟨_, rfl⟩
  rw [hn1] at hho zho hR ⊢
  obtain ⟨o2, p2, rfl, -, -⟩ := id hmo
  obtain ⟨n2, hn2⟩ : ∃ n, mo.length = n := ⟨_, rfl⟩
  rw [hn2] at hmo zmo hR ⊢
  obtain ⟨o4, p4, rfl, -, -⟩ := id hda
  obtain ⟨n4, hn4⟩ : ∃ n, da.length = n := ⟨_, rfl⟩
  rw [hn4] at hda zda hR ⊢
  obtain ⟨o6, p6, rfl, -, -⟩ := id hne
  obtain ⟨n6, hn6⟩ : ∃ n, ne.length = n := ⟨_, rfl⟩
  rw [hn6] at hne zne hR ⊢
  obtain ⟨o8, p8, rfl, -, -⟩ := id hwd
  obtain ⟨n8, hn8⟩ : ∃ n, wd.length = n := ⟨_, rfl⟩
  rw [hn8] at hwd zwd hR ⊢
  obtain ⟨o9, p9, rfl, -, -⟩ := id hlo
  obtain ⟨n9, hn9⟩ : ∃ n, lo.length = n := ⟨_, rfl⟩
  rw [hn9] at hlo zlo hR ⊢
  obtain ⟨o10, p10, rfl, -, -⟩ := id hnt
  obtain ⟨n10, hn10⟩ : ∃ n, nt.length = n := ⟨_, rfl⟩
  rw [hn10] at hnt znt hR ⊢
  obtain ⟨wB, hwB⟩ : ∃ x, w.alloc (.cells #[.slice o0 n0 p0, .slice o1 n1 p1, .slice o2 n2 p2, .bool A, .slice o4 n4 p4, .bool La, .slice o6 n6 p6, .bool Aw, .slice o8 n8 p8, .slice o9 n9 p9, .slice o10 n10 p10] 25) = x := ⟨_, rfl⟩
  have HBB : Hid (Below w.heap.size w wB) := Lib.hid (by rw [← hwB]; exact (Below.refl _ _).alloc (Nat.le_refl _) _)
  have hsz : wB.heap.size = w.heap.size + 1 := by rw [← hwB]; simp
  have q0 : wB.cell? ⟨w.heap.size, 0, none⟩ = some (.slice o0 n0 p0) := by rw [← hwB]; simp
  have q1 : wB.cell? ⟨w.heap.size, 1, none⟩ = some (.slice o1 n1 p1) := by rw [← hwB]; simp
  have q2 : wB.cell? ⟨w.heap.size, 2, none⟩ = some (.slice o2 n2 p2) := by rw [← hwB]; simp
  have q3 : wB.cell? ⟨w.heap.size, 3, none⟩ = some (.bool A) := by rw [← hwB]; simp
  have q4 : wB.cell? ⟨w.heap.size, 4, none⟩ = some (.slice o4 n4 p4) := by rw [← hwB]; simp
  have q5 : wB.cell? ⟨w.heap.size, 5, none⟩ = some (.bool La) := by rw [← hwB]; simp
  have q6 : wB.cell? ⟨w.heap.size, 6, none⟩ = some (.slice o6 n6 p6) := by rw [← hwB]; simp
  have q7 : wB.cell? ⟨w.heap.size, 7, none⟩ = some (.bool Aw) := by rw [← hwB]; simp
  have q8 : wB.cell? ⟨w.heap.size, 8, none⟩ = some (.slice o8 n8 p8) := by rw [← hwB]; simp
  have q9 : wB.cell? ⟨w.heap.size, 9, none⟩ = some (.slice o9 n9 p9) := by rw [← hwB]; simp
  have q10 : wB.cell? ⟨w.heap.size, 10, none⟩ = some (.slice o10 n10 p10) := by rw [← hwB]; simp
  obtain ⟨r0, hr0⟩ : ∃ x, risB mi 0 59 = x := ⟨_, rfl⟩
  have hlen0 : mi.length ≤ 140737488355328 := by rw [hn0]; exact zmi
  have C0 : Hid (∀ w0, Below wB.heap.size wB w0 → Calls Tryz.prog 21 #[.slice o0 n0 p0, .int .i64 0, .int .i64 59] w0 fun e w' => e = .returned (.bool r0) ∧ Below w0.heap.size w0 w') := Lib.hid fun w0 hb => hr0 ▸ rising_any _ mi 0 59 w0 ((hmi.call HBB.out).call hb) hlen0
  rw [hr0] at hR
  obtain ⟨r1, hr1⟩ : ∃ x, risB ho 0 23 = x := ⟨_, rfl⟩
  have hlen1 : ho.length ≤ 140737488355328 := by rw [hn1]; exact zho
  have C1 : Hid (∀ w0, Below wB.heap.size wB w0 → Calls Tryz.prog 21 #[.slice o1 n1 p1, .int .i64 0, .int .i64 23] w0 fun e w' => e = .returned (.bool r1) ∧ Below w0.heap.size w0 w') := Lib.hid fun w0 hb => hr1 ▸ rising_any _ ho 0 23 w0 ((hho.call HBB.out).call hb) hlen1
  rw [hr1] at hR
  obtain ⟨r2, hr2⟩ : ∃ x, risB mo 1 12 = x := ⟨_, rfl⟩
  have hlen2 : mo.length ≤ 140737488355328 := by rw [hn2]; exact zmo
  have C2 : Hid (∀ w0, Below wB.heap.size wB w0 → Calls Tryz.prog 21 #[.slice o2 n2 p2, .int .i64 1, .int .i64 12] w0 fun e w' => e = .returned (.bool r2) ∧ Below w0.heap.size w0 w') := Lib.hid fun w0 hb => hr2 ▸ rising_any _ mo 1 12 w0 ((hmo.call HBB.out).call hb) hlen2
  rw [hr2] at hR
  obtain ⟨r4, hr4⟩ : ∃ x, risB da 1 31 = x := ⟨_, rfl⟩
  have hlen4 : da.length ≤ 140737488355328 := by rw [hn4]; exact zda
  have C4 : Hid (∀ w0, Below wB.heap.size wB w0 → Calls Tryz.prog 21 #[.slice o4 n4 p4, .int .i64 1, .int .i64 31] w0 fun e w' => e = .returned (.bool r4) ∧ Below w0.heap.size w0 w') := Lib.hid fun w0 hb => hr4 ▸ rising_any _ da 1 31 w0 ((hda.call HBB.out).call hb) hlen4
  rw [hr4] at hR
  obtain ⟨r6, hr6⟩ : ∃ x, risB ne 1 31 = x := ⟨_, rfl⟩
  have hlen6 : ne.length ≤ 140737488355328 := by rw [hn6]; exact zne
  have C6 : Hid (∀ w0, Below wB.heap.size wB w0 → Calls Tryz.prog 21 #[.slice o6 n6 p6, .int .i64 1, .int .i64 31] w0 fun e w' => e = .returned (.bool r6) ∧ Below w0.heap.size w0 w') := Lib.hid fun w0 hb => hr6 ▸ rising_any _ ne 1 31 w0 ((hne.call HBB.out).call hb) hlen6
  rw [hr6] at hR
  obtain ⟨r8, hr8⟩ : ∃ x, risB wd 1 7 = x := ⟨_, rfl⟩
  have hlen8 : wd.length ≤ 140737488355328 := by rw [hn8]; exact zwd
  have C8 : Hid (∀ w0, Below wB.heap.size wB w0 → Calls Tryz.prog 21 #[.slice o8 n8 p8, .int .i64 1, .int .i64 7] w0 fun e w' => e = .returned (.bool r8) ∧ Below w0.heap.size w0 w') := Lib.hid fun w0 hb => hr8 ▸ rising_any _ wd 1 7 w0 ((hwd.call HBB.out).call hb) hlen8
  rw [hr8] at hR
  obtain ⟨r9, hr9⟩ : ∃ x, risB lo 1 7 = x := ⟨_, rfl⟩
  have hlen9 : lo.length ≤ 140737488355328 := by rw [hn9]; exact zlo
  have C9 : Hid (∀ w0, Below wB.heap.size wB w0 → Calls Tryz.prog 21 #[.slice o9 n9 p9, .int .i64 1, .int .i64 7] w0 fun e w' => e = .returned (.bool r9) ∧ Below w0.heap.size w0 w') := Lib.hid fun w0 hb => hr9 ▸ rising_any _ lo 1 7 w0 ((hlo.call HBB.out).call hb) hlen9
  rw [hr9] at hR
  rw [show decide (0 < n4 + n6) = (decide (0 < n4) || decide (0 < n6)) by rw [Bool.eq_iff_iff]; simp; omega, show decide (0 < n8 + n9 + n10) = (decide (0 < n8) || decide (0 < n9) || decide (0 < n10)) by rw [Bool.eq_iff_iff]; simp; omega] at hR
  obtain ⟨Mo, hMo⟩ : ∃ x, (decide (0 < n4) || decide (0 < n6) || La) = x := ⟨_, rfl⟩
  obtain ⟨Wo, hWo⟩ : ∃ x, (decide (0 < n8) || decide (0 < n9) || decide (0 < n10)) = x := ⟨_, rfl⟩
  rw [hMo, hWo] at hR
  have HNT := Lib.hid (hnt.call HBB.out)
  have HN10 := Lib.hid hn10
  have HwB := Lib.hid hwB
  clear hwB hnt hn10 hmi hr0 hlen0 hn0 hho hr1 hlen1 hn1 hmo hr2 hlen2 hn2 hda hr4 hlen4 hn4 hne hr6 hlen6 hn6 hwd hr8 hlen8 hn8 hlo hr9 hlen9 hn9
  obtain ⟨K1, hK1⟩ : ∃ x, (decide (0 < n0) && decide (0 < n1) && decide (0 < n2) && (A != Mo) && (Aw != Wo)) = x := ⟨_, rfl⟩
  obtain ⟨Hd, hHd⟩ : ∃ x, (K1 && r0 && r1 && r2 && r4 && r6 && r8 && r9) = x := ⟨_, rfl⟩
  have HR := Lib.hid (show (Hd && nthB nt) = R by rw [← hR, ← hHd, ← hK1]; cases r0 <;> cases r1 <;> cases r2 <;> cases r4 <;> cases r6 <;> cases r8 <;> cases r9 <;> simp <;> cases (A != Mo) <;> cases (Aw != Wo) <;> simp [Bool.and_assoc])
  have HMo := Lib.hid hMo
  have HWo := Lib.hid hWo
  have HK1 := Lib.hid hK1
  have HHd := Lib.hid hHd
  clear hR hMo hWo hK1 hHd
  have HC : Hid (BoxC wB w.heap.size (.slice o0 n0 p0) (.slice o1 n1 p1) (.slice o2 n2 p2) A (.slice o4 n4 p4) La (.slice o6 n6 p6) Aw (.slice o8 n8 p8) (.slice o9 n9 p9) (.slice o10 n10 p10)) := Lib.hid ⟨by omega, q0, q1, q2, q3, q4, q5, q6, q7, q8, q9, q10⟩
  have HC0 := HC
  have qz : w.heap.size < wB.heap.size := by omega
  have HB : Hid (Below wB.heap.size wB wB) := Lib.hid (Below.refl _ _)
  go_enter Tryz.func10, Tryz.ntmps10
  go_upto_region 1 with fail
  rw [HwB.out]
  go_cut [0, 3] from 8 to 21 (fun _ s wx => s = .bool Mo ∧ wx = wB)
  case first =>
    go_wp2_with fail
    all_goals go_meet
    all_goals exact ⟨by rw [← HMo.out]; simp_all <;> (first | omega | exact .inl (by omega) | exact .inl (.inl (by omega)) | exact .inl (.inr (by omega)) | exact .inr (by omega)), rfl⟩
  case rest =>
    obtain ⟨rfl, rfl⟩ := hcut
    go_upto_region 2 with fail
    go_cut [0, 3, 4] from 22 to 37 (fun _ s3 s wx => s3 = .bool Mo ∧ s = .bool Wo ∧ wx = wc)
    case first =>
      go_wp2_with fail
      all_goals go_meet
      all_goals exact ⟨rfl, by rw [← HWo.out]; simp_all <;> (first | omega | exact .inl (by omega) | exact .inl (.inl (by omega)) | exact .inl (.inr (by omega)) | exact .inr (by omega)), rfl⟩
    case rest =>
      obtain ⟨rfl, rfl, rfl⟩ := hcut
      go_upto_region 3 with fail
      go_cut [0, 3, 4, 5] from 38 to 65 (fun _ _ _ s wx => s = .bool K1 ∧ wx = wc)
      case first =>
        go_wp2_with fail
        all_goals go_meet
        all_goals exact ⟨by rw [← HK1.out]; simp_all [bne] <;> (first | omega | exact .inl (by omega) | exact .inl (.inl (by omega)) | exact .inl (.inr (by omega)) | exact .inr (by omega)), rfl⟩
      case rest =>
        obtain ⟨rfl, rfl⟩ := hcut
        obtain ⟨wB, rfl⟩ : ∃ wo : World, wo = wc := ⟨_, rfl⟩
        go_upto_region 4 with fail
        go_cut [0, 3, 4, 5] from 66 to 101 (fun _ _ _ s wx => s = .bool Hd ∧ Hid (Below wB.heap.size wB wx))
        case first =>
          go_wp2_with (first | (go_at_call 21; refine Calls.mono (by with_reducible exact C0.out _ HB.out) ?_; rintro e wx ⟨rfl, hb⟩; have HB := Lib.hid (thenB HB.out hb); have HC := Lib.hid (HC.out.call hb); clear hb; clear qz q0 q1 q2 q3 q4 q5 q6 q7 q8 q9 q10; obtain ⟨qz, q0, q1, q2, q3, q4, q5, q6, q7, q8, q9, q10⟩ := HC.out; try dsimp only) | (go_at_call 21; refine Calls.mono (by with_reducible exact C1.out _ HB.out) ?_; rintro e wx ⟨rfl, hb⟩; have HB := Lib.hid (thenB HB.out hb); have HC := Lib.hid (HC.out.call hb); clear hb; clear qz q0 q1 q2 q3 q4 q5 q6 q7 q8 q9 q10; obtain ⟨qz, q0, q1, q2, q3, q4, q5, q6, q7, q8, q9, q10⟩ := HC.out; try dsimp only) | (go_at_call 21; refine Calls.mono (by with_reducible exact C2.out _ HB.out) ?_; rintro e wx ⟨rfl, hb⟩; have HB := Lib.hid (thenB HB.out hb); have HC := Lib.hid (HC.out.call hb); clear hb; clear qz q0 q1 q2 q3 q4 q5 q6 q7 q8 q9 q10; obtain ⟨qz, q0, q1, q2, q3, q4, q5, q6, q7, q8, q9, q10⟩ := HC.out; try dsimp only) | (go_at_call 21; refine Calls.mono (by with_reducible exact C4.out _ HB.out) ?_; rintro e wx ⟨rfl, hb⟩; have HB := Lib.hid (thenB HB.out hb); have HC := Lib.hid (HC.out.call hb); clear hb; clear qz q0 q1 q2 q3 q4 q5 q6 q7 q8 q9 q10; obtain ⟨qz, q0, q1, q2, q3, q4, q5, q6, q7, q8, q9, q10⟩ := HC.out; try dsimp only) | (go_at_call 21; refine Calls.mono (by with_reducible exact C6.out _ HB.out) ?_; rintro e wx ⟨rfl, hb⟩; have HB := Lib.hid (thenB HB.out hb); have HC := Lib.hid (HC.out.call hb); clear hb; clear qz q0 q1 q2 q3 q4 q5 q6 q7 q8 q9 q10; obtain ⟨qz, q0, q1, q2, q3, q4, q5, q6, q7, q8, q9, q10⟩ := HC.out; try dsimp only) | (go_at_call 21; refine Calls.mono (by with_reducible exact C8.out _ HB.out) ?_; rintro e wx ⟨rfl, hb⟩; have HB := Lib.hid (thenB HB.out hb); have HC := Lib.hid (HC.out.call hb); clear hb; clear qz q0 q1 q2 q3 q4 q5 q6 q7 q8 q9 q10; obtain ⟨qz, q0, q1, q2, q3, q4, q5, q6, q7, q8, q9, q10⟩ := HC.out; try dsimp only) | (go_at_call 21; refine Calls.mono (by with_reducible exact C9.out _ HB.out) ?_; rintro e wx ⟨rfl, hb⟩; have HB := Lib.hid (thenB HB.out hb); have HC := Lib.hid (HC.out.call hb); clear hb; clear qz q0 q1 q2 q3 q4 q5 q6 q7 q8 q9 q10; obtain ⟨qz, q0, q1, q2, q3, q4, q5, q6, q7, q8, q9, q10⟩ := HC.out; try dsimp only))
          all_goals go_meet
          all_goals exact ⟨by rw [← HHd.out]; simp_all, HB⟩
        case rest =>
          obtain ⟨rfl, HB⟩ := hcut
          clear qz q0 q1 q2 q3 q4 q5 q6 q7 q8 q9 q10
          clear HMo HWo HK1 HHd
          go_wp2_with fail
          go_loopw [5, 6] (fun b c wr => ∃ (q : Bool) (k : Nat), b = .bool q ∧ c = .int .i64 (k : Int) ∧ k ≤ n10 ∧ Hid (OkSt q Hd nt k) ∧ Hid (Below wB.heap.size wB wr)) (fun _ c _ => n10 - (intOf c).toNat)
          case atStart => exact ⟨Hd, 0, rfl, rfl, by omega, Lib.hid ⟨fun h => ⟨h, fun j hj => absurd hj (Nat.not_lt_zero j)⟩, fun h => h.1⟩, HB⟩
          case round =>
            clear HB
            obtain ⟨q, k, rfl, rfl, hk, HK, HB⟩ := hrel
            obtain ⟨wA, rfl⟩ : ∃ wo : World, wo = wr := ⟨_, rfl⟩
            have HC := Lib.hid (HC0.out.call HB.out)
            obtain ⟨qz, -, -, -, -, -, -, -, -, -, -, q10⟩ := HC.out
            by_cases hkn : k < n10
            · cases q
              · have hE : false = R := by
                  rw [← HR.out]
                  refine (Bool.eq_false_iff.2 fun h => ?_).symm
                  rw [Bool.and_eq_true] at h
                  exact Bool.noConfusion (HK.out.2 ⟨h.1, fun j hj => nth_at h.2 j (by rw [HN10.out]; omega)⟩)
                subst hE
                go_wp2_with fail
                go_ret
                exact ⟨rfl, HBB.out.trans (HB.out.mono (by omega))⟩
              · obtain ⟨hHd, hKK⟩ := HK.out.1 rfl
                have HKK := Lib.hid hKK
                have HHd := Lib.hid hHd
                clear hHd hKK
                have hkl : k < nt.length := by rw [HN10.out]; exact hkn
                obtain ⟨ad, rfl, hc1, hc2⟩ := (HNT.out.call HB.out).at hkl
                have HG : Hid (NthAt nt k ↔ 1 ≤ (nt.getD k (0, 0)).1 ∧ (nt.getD k (0, 0)).1 ≤ 5 ∧ 1 ≤ (nt.getD k (0, 0)).2 ∧ (nt.getD k (0, 0)).2 ≤ 7 ∧ (0 < k → 10 * (nt.getD (k - 1) (0, 0)).2 + (nt.getD (k - 1) (0, 0)).1 < 10 * (nt.getD k (0, 0)).2 + (nt.getD k (0, 0)).1)) := Lib.hid Iff.rfl
                have HP : Hid (0 < k → (wA.cell? (ad.add ((k - 1) * 2)) = some (.int .i64 (nt.getD (k - 1) (0, 0)).1) ∧ wA.cell? { block := (ad.add ((k - 1) * 2)).block, off := (ad.add ((k - 1) * 2)).off + 1 } = some (.int .i64 (nt.getD (k - 1) (0, 0)).2)) ∧ 1 ≤ (nt.getD (k - 1) (0, 0)).1 ∧ (nt.getD (k - 1) (0, 0)).1 ≤ 5 ∧ 1 ≤ (nt.getD (k - 1) (0, 0)).2 ∧ (nt.getD (k - 1) (0, 0)).2 ≤ 7) := Lib.hid fun h0 => by
                  obtain ⟨ad', e, h1, h2⟩ := (HNT.out.call HB.out).at (show k - 1 < nt.length by omega)
                  cases e
                  have h3 := HKK.out (k - 1) (by omega)
                  exact ⟨⟨h1, h2⟩, h3.1, h3.2.1, h3.2.2.1, h3.2.2.2.1⟩
                have HF : Hid (¬ NthAt nt k → OkSt false Hd nt (k + 1)) := Lib.hid fun h => ⟨fun h2 => Bool.noConfusion h2, fun h2 => absurd (h2.2 k (Nat.lt_succ_self k)) h⟩
                have HT : Hid (NthAt nt k → OkSt true Hd nt (k + 1)) := Lib.hid fun h => ⟨fun _ => ⟨HHd.out, fun j hj => by
                  rcases Nat.lt_or_ge j k with h1 | h1
                  · exact HKK.out j h1
                  · obtain rfl : j = k := by omega
                    exact h⟩, fun _ => rfl⟩
                clear hkl HK
                obtain ⟨N, hN⟩ : ∃ x, (nt.getD k (0, 0)).1 = x := ⟨_, rfl⟩
                obtain ⟨Y, hY⟩ : ∃ x, (nt.getD k (0, 0)).2 = x := ⟨_, rfl⟩
                rw [hN] at hc1 HG
                rw [hY] at hc2 HG
                clear hN hY
                obtain ⟨wX, hwX⟩ : ∃ x, wA.alloc (.cells #[.int .i64 N, .int .i64 Y] 59) = x := ⟨_, rfl⟩
                have x0 : wX.cell? ⟨wA.heap.size, 0, none⟩ = some (.int .i64 N) := by rw [← hwX]; simp
                have x1 : wX.cell? ⟨wA.heap.size, 1, none⟩ = some (.int .i64 Y) := by rw [← hwX]; simp
                have HXB : Hid (Below wB.heap.size wA wX) := Lib.hid (by rw [← hwX]; exact (Below.refl _ _).alloc HB.out.size _)
                have HXA : Hid (Below wA.heap.size wA wX) := Lib.hid (by rw [← hwX]; exact (Below.refl _ _).alloc (Nat.le_refl _) _)
                have HXZ : Hid (wB.heap.size ≤ wX.heap.size) := Lib.hid (Nat.le_trans HB.out.size HXA.out.size)
                have y10 := (HXA.out.cell (p := ⟨w.heap.size, 10, none⟩) qz).trans q10
                have HwX := Lib.hid hwX
                clear hwX
                have s0 := cell_regrown x0
                have s1 := cell_regrown x1
                have s2 := cell_regrown y10
                by_cases g1 : 1 ≤ N
                · have d1 : decide (1 ≤ N) = true := decide_eq_true g1
                  by_cases g2 : N ≤ 5
                  · have d2 : decide (N ≤ 5) = true := decide_eq_true g2
                    by_cases g3 : 1 ≤ Y
                    · have d3 : decide (1 ≤ Y) = true := decide_eq_true g3
                      by_cases g4 : Y ≤ 7
                      · have d4 : decide (Y ≤ 7) = true := decide_eq_true g4
                        by_cases g5 : k = 0
                        · have d5 : ((k : Int) == 0) = true := by simpa using g5
                          have HT := Lib.hid (HT.out (HG.out.2 ⟨by omega, by omega, by omega, by omega, fun h => by omega⟩))
                          have hk1 : wA.cell? ad = some (.int .i64 N) := by have h := hc1; rw [g5] at h; simp only [Addr.add, Nat.zero_mul, Nat.add_zero] at h; exact h
                          have hk2 : wA.cell? { block := ad.block, off := ad.off + 1 } = some (.int .i64 Y) := by have h := hc2; rw [g5] at h; simp only [Addr.add, Nat.zero_mul, Nat.add_zero] at h; exact h
                          go_wp2_with fail
                          rw [HwX.out]
                          refine wp_region_below (by kernel_rfl) (by kernel_rfl) ?_
                          repeat (go_big_quiet_step (fail))
                          refine wpQuiet_nil ?_
                          intro w1 hb1
                          have HB := Lib.hid (HB.out.trans (HXB.out.trans (hb1.mono HXZ.out)))
                          clear hb1
                          go_wp2_with fail
                          go_roundw
                          case rel => exact ⟨true, k + 1, rfl, by go_num, by omega, HT, HB⟩
                          case measure => simp [intOf]; omega
                        · have d5 : ((k : Int) == 0) = false := by simpa using g5
                          have hk0 : 0 < k := by omega
                          obtain ⟨⟨hp1, hp2⟩, b1, b2, b3, b4⟩ := HP.out (by omega)
                          obtain ⟨q, hq⟩ : ∃ q, k = q + 1 := ⟨k - 1, by omega⟩
                          have hq1 : k - 1 = q := by omega
                          rw [hq1] at hp1 hp2 b1 b2 b3 b4 HG
                          obtain ⟨P1, hP1⟩ : ∃ x, (nt.getD q (0, 0)).1 = x := ⟨_, rfl⟩
                          obtain ⟨P2, hP2⟩ : ∃ x, (nt.getD q (0, 0)).2 = x := ⟨_, rfl⟩
                          rw [hP1] at hp1 b1 b2 HG
                          rw [hP2] at hp2 b3 b4 HG
                          have e1 : (k : Int) - 1 = (q : Int) := by omega
                          have e2 : IntKind.i64.wrap ((k : Int) - 1) = (q : Int) := by rw [e1]; exact IntWalk.i64_in _ (by omega)
                          have e3 : (q : Int) < (n10 : Int) := by omega
                          have s3 := cell_regrown ((HXA.out.cell (World.block_lt_of_cell? _ _ hp1)).trans hp1)
                          have s4 := cell_regrown ((HXA.out.cell (World.block_lt_of_cell? _ _ hp2)).trans hp2)
                          clear hP1 hP2 hq hq1
                          by_cases g6 : P2 < Y
                          · have d6 : decide (P2 < Y) = true := decide_eq_true g6
                            have HT := Lib.hid (HT.out (HG.out.2 ⟨by omega, by omega, by omega, by omega, fun _ => by omega⟩))
                            go_wp2_with fail
                            rw [HwX.out]
                            refine wp_region_below (by kernel_rfl) (by kernel_rfl) ?_
                            repeat (go_big_quiet_step (fail))
                            refine wpQuiet_nil ?_
                            intro w1 hb1
                            have HB := Lib.hid (HB.out.trans (HXB.out.trans (hb1.mono HXZ.out)))
                            clear hb1
                            go_wp2_with fail
                            go_roundw
                            case rel => exact ⟨true, k + 1, rfl, by go_num, by omega, HT, HB⟩
                            case measure => simp [intOf]; omega
                          · have d6 : decide (P2 < Y) = false := decide_eq_false g6
                            by_cases g7 : P2 = Y
                            · have d7 : (P2 == Y) = true := by simpa using g7
                              by_cases g8 : P1 < N
                              · have d8 : decide (P1 < N) = true := decide_eq_true g8
                                have HT := Lib.hid (HT.out (HG.out.2 ⟨by omega, by omega, by omega, by omega, fun _ => by omega⟩))
                                clear g7
                                go_wp2_with fail
                                rw [HwX.out]
                                refine wp_region_below (by kernel_rfl) (by kernel_rfl) ?_
                                repeat (go_big_quiet_step (fail))
                                refine wpQuiet_nil ?_
                                intro w1 hb1
                                have HB := Lib.hid (HB.out.trans (HXB.out.trans (hb1.mono HXZ.out)))
                                clear hb1
                                go_wp2_with fail
                                go_roundw
                                case rel => exact ⟨true, k + 1, rfl, by go_num, by omega, HT, HB⟩
                                case measure => simp [intOf]; omega
                              · have d8 : decide (P1 < N) = false := decide_eq_false g8
                                have HF := Lib.hid (HF.out fun h => by have := (HG.out.1 h).2.2.2.2 (by omega); omega)
                                clear g7
                                go_wp2_with fail
                                rw [HwX.out]
                                refine wp_region_below (by kernel_rfl) (by kernel_rfl) ?_
                                repeat (go_big_quiet_step (fail))
                                refine wpQuiet_nil ?_
                                intro w1 hb1
                                have HB := Lib.hid (HB.out.trans (HXB.out.trans (hb1.mono HXZ.out)))
                                clear hb1
                                go_wp2_with fail
                                go_roundw
                                case rel => exact ⟨false, k + 1, rfl, by go_num, by omega, HF, HB⟩
                                case measure => simp [intOf]; omega
                            · have d7 : (P2 == Y) = false := by simpa using g7
                              have HF := Lib.hid (HF.out fun h => by have := (HG.out.1 h).2.2.2.2 (by omega); omega)
                              go_wp2_with fail
                              rw [HwX.out]
                              refine wp_region_below (by kernel_rfl) (by kernel_rfl) ?_
                              repeat (go_big_quiet_step (fail))
                              refine wpQuiet_nil ?_
                              intro w1 hb1
                              have HB := Lib.hid (HB.out.trans (HXB.out.trans (hb1.mono HXZ.out)))
                              clear hb1
                              go_wp2_with fail
                              go_roundw
                              case rel => exact ⟨false, k + 1, rfl, by go_num, by omega, HF, HB⟩
                              case measure => simp [intOf]; omega
                      · have d4 : decide (Y ≤ 7) = false := decide_eq_false g4
                        have HF := Lib.hid (HF.out fun h => by have := (HG.out.1 h).2.2.2.1; omega)
                        go_wp2_with fail
                        rw [HwX.out]
                        refine wp_region_below (by kernel_rfl) (by kernel_rfl) ?_
                        repeat (go_big_quiet_step (fail))
                        refine wpQuiet_nil ?_
                        intro w1 hb1
                        have HB := Lib.hid (HB.out.trans (HXB.out.trans (hb1.mono HXZ.out)))
                        clear hb1
                        go_wp2_with fail
                        go_roundw
                        case rel => exact ⟨false, k + 1, rfl, by go_num, by omega, HF, HB⟩
                        case measure => simp [intOf]; omega
                    · have d3 : decide (1 ≤ Y) = false := decide_eq_false g3
                      have HF := Lib.hid (HF.out fun h => by have := (HG.out.1 h).2.2.1; omega)
                      go_wp2_with fail
                      rw [HwX.out]
                      refine wp_region_below (by kernel_rfl) (by kernel_rfl) ?_
                      repeat (go_big_quiet_step (fail))
                      refine wpQuiet_nil ?_
                      intro w1 hb1
                      have HB := Lib.hid (HB.out.trans (HXB.out.trans (hb1.mono HXZ.out)))
                      clear hb1
                      go_wp2_with fail
                      go_roundw
                      case rel => exact ⟨false, k + 1, rfl, by go_num, by omega, HF, HB⟩
                      case measure => simp [intOf]; omega
                  · have d2 : decide (N ≤ 5) = false := decide_eq_false g2
                    have HF := Lib.hid (HF.out fun h => by have := (HG.out.1 h).2.1; omega)
                    go_wp2_with fail
                    rw [HwX.out]
                    refine wp_region_below (by kernel_rfl) (by kernel_rfl) ?_
                    repeat (go_big_quiet_step (fail))
                    refine wpQuiet_nil ?_
                    intro w1 hb1
                    have HB := Lib.hid (HB.out.trans (HXB.out.trans (hb1.mono HXZ.out)))
                    clear hb1
                    go_wp2_with fail
                    go_roundw
                    case rel => exact ⟨false, k + 1, rfl, by go_num, by omega, HF, HB⟩
                    case measure => simp [intOf]; omega
                · have d1 : decide (1 ≤ N) = false := decide_eq_false g1
                  have HF := Lib.hid (HF.out fun h => by have := (HG.out.1 h).1; omega)
                  go_wp2_with fail
                  rw [HwX.out]
                  refine wp_region_below (by kernel_rfl) (by kernel_rfl) ?_
                  repeat (go_big_quiet_step (fail))
                  refine wpQuiet_nil ?_
                  intro w1 hb1
                  have HB := Lib.hid (HB.out.trans (HXB.out.trans (hb1.mono HXZ.out)))
                  clear hb1
                  go_wp2_with fail
                  go_roundw
                  case rel => exact ⟨false, k + 1, rfl, by go_num, by omega, HF, HB⟩
                  case measure => simp [intOf]; omega
            · obtain rfl : k = n10 := by omega
              have hE : q = R := by
                rw [← HR.out, Bool.eq_iff_iff, (show q = true ↔ (Hd = true ∧ ∀ j, j < k → NthAt nt j) from HK.out), Bool.and_eq_true]
                exact ⟨fun h => ⟨h.1, nth_true fun j hj => h.2 j (by rw [HN10.out] at hj; exact hj)⟩, fun h => ⟨h.1, fun j hj => nth_at h.2 j (by rw [HN10.out]; exact hj)⟩⟩
              subst hE
              clear HK
              cases q
              · go_wp2_with fail
                go_ret
                exact ⟨rfl, HBB.out.trans (HB.out.mono (by omega))⟩
              · go_wp2_with fail
                go_ret
                exact ⟨rfl, HBB.out.trans (HB.out.mono (by omega))⟩
end Go.Proofs.YtdnbnpknmdcljaaGreatDoor
