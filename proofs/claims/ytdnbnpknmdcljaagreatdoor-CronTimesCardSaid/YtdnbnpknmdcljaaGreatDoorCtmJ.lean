/- The document's CronFits, CronNext. -/
import Derived.Test.YtdnbnpknmdcljaaGreatDoorCtmI
namespace Go.Proofs.YtdnbnpknmdcljaaGreatDoor
open Go.RowKit
set_option maxHeartbeats 4000000 in
theorem rfits_bad (c : Cron) (v0 v1 v2 v4 v6 v8 v9 v10 : Value) (t : Int) (w : World) (h : CronR w c v0 v1 v2 v4 v6 v8 v9 v10) (hz : CronZ c) (hok : c.ok = false) :
    Calls Tryz.prog 5 #[cronV c v0 v1 v2 v4 v6 v8 v9 v10, .int .i64 t] w fun e w' => e = .returned (.tuple #[.bool false, .int .i64 1]) ∧ Below w.heap.size w w' := by
  have CK : Hid (∀ w0, Below w.heap.size w w0 → Calls Tryz.prog 10 #[cronV c v0 v1 v2 v4 v6 v8 v9 v10] w0 fun e w' => e = .returned (.int .i64 1) ∧ Below w0.heap.size w0 w') := Lib.hid fun w0 hb => by
    have k := rcheck_any c _ _ _ _ _ _ _ _ w0 (h.call hb) hz
    rw [hok] at k
    exact k
  obtain ⟨o0, p0, hv0, -, -⟩ := id h.mi
  obtain ⟨n0, hn0⟩ : ∃ n, c.mi.length = n := ⟨_, rfl⟩
  rw [hn0] at hv0
  subst hv0
  obtain ⟨o1, p1, hv1, -, -⟩ := id h.ho
  obtain ⟨n1, hn1⟩ : ∃ n, c.ho.length = n := ⟨_, rfl⟩
  rw [hn1] at hv1
  subst hv1
  obtain ⟨o2, p2, hv2, -, -⟩ := id h.mo
  obtain ⟨n2, hn2⟩ : ∃ n, c.mo.length = n := ⟨_, rfl⟩
  rw [hn2] at hv2
  subst hv2
  obtain ⟨o4, p4, hv4, -, -⟩ := id h.da
  obtain ⟨n4, hn4⟩ : ∃ n, c.da.length = n := ⟨_, rfl⟩
  rw [hn4] at hv4
  subst hv4
  obtain ⟨o6, p6, hv6, -, -⟩ := id h.ne
  obtain ⟨n6, hn6⟩ : ∃ n, c.ne.length = n := ⟨_, rfl⟩
  rw [hn6] at hv6
  subst hv6
  obtain ⟨o8, p8, hv8, -, -⟩ := id h.wd
  obtain ⟨n8, hn8⟩ : ∃ n, c.wd.length = n := ⟨_, rfl⟩
  rw [hn8] at hv8
  subst hv8
  obtain ⟨o9, p9, hv9, -, -⟩ := id h.lo
  obtain ⟨n9, hn9⟩ : ∃ n, c.lo.length = n := ⟨_, rfl⟩
  rw [hn9] at hv9
  subst hv9
  obtain ⟨o10, p10, hv10, -, -⟩ := id h.nt
  obtain ⟨n10, hn10⟩ : ∃ n, c.nt.length = n := ⟨_, rfl⟩
  rw [hn10] at hv10
  subst hv10
  obtain ⟨A, hA⟩ : ∃ x, c.any = x := ⟨_, rfl⟩
  obtain ⟨La, hLa⟩ : ∃ x, c.la = x := ⟨_, rfl⟩
  obtain ⟨Aw, hAw⟩ : ∃ x, c.aw = x := ⟨_, rfl⟩
  unfold cronV at CK ⊢
  rw [hA, hLa, hAw] at CK ⊢
  clear hA hLa hAw hn0 hn1 hn2 hn4 hn6 hn8 hn9 hn10 h hz hok
  have HB0 := Lib.hid ((Below.refl w.heap.size w).alloc (Nat.le_refl _) (.cells #[.slice o0 n0 p0, .slice o1 n1 p1, .slice o2 n2 p2, .bool A, .slice o4 n4 p4, .bool La, .slice o6 n6 p6, .bool Aw, .slice o8 n8 p8, .slice o9 n9 p9, .slice o10 n10 p10] 25))
  go_enter Tryz.func5, Tryz.ntmps5
  go_wp2_with (go_at_call 10; refine Calls.mono (by with_reducible exact CK.out _ HB0.out) ?_; rintro e w1 ⟨rfl, hb1⟩; have HB1 := Lib.hid (thenB HB0.out hb1); clear hb1)
  go_ret2
  exact ⟨rfl, HB1.out⟩
set_option maxHeartbeats 4000000 in
theorem rnext_bad (c : Cron) (v0 v1 v2 v4 v6 v8 v9 v10 : Value) (t : Int) (w : World) (h : CronR w c v0 v1 v2 v4 v6 v8 v9 v10) (hz : CronZ c) (hok : c.ok = false) :
    Calls Tryz.prog 7 #[cronV c v0 v1 v2 v4 v6 v8 v9 v10, .int .i64 t] w fun e w' => e = .returned (.tuple #[.int .i64 0, .int .i64 1]) ∧ Below w.heap.size w w' := by
  have CK : Hid (∀ w0, Below w.heap.size w w0 → Calls Tryz.prog 10 #[cronV c v0 v1 v2 v4 v6 v8 v9 v10] w0 fun e w' => e = .returned (.int .i64 1) ∧ Below w0.heap.size w0 w') := Lib.hid fun w0 hb => by
    have k := rcheck_any c _ _ _ _ _ _ _ _ w0 (h.call hb) hz
    rw [hok] at k
    exact k
  obtain ⟨o0, p0, hv0, -, -⟩ := id h.mi
  obtain ⟨n0, hn0⟩ : ∃ n, c.mi.length = n := ⟨_, rfl⟩
  rw [hn0] at hv0
  subst hv0
  obtain ⟨o1, p1, hv1, -, -⟩ := id h.ho
  obtain ⟨n1, hn1⟩ : ∃ n, c.ho.length = n := ⟨_, rfl⟩
  rw [hn1] at hv1
  subst hv1
  obtain ⟨o2, p2, hv2, -, -⟩ := id h.mo
  obtain ⟨n2, hn2⟩ : ∃ n, c.mo.length = n := ⟨_, rfl⟩
  rw [hn2] at hv2
  subst hv2
  obtain ⟨o4, p4, hv4, -, -⟩ := id h.da
  obtain ⟨n4, hn4⟩ : ∃ n, c.da.length = n := ⟨_, rfl⟩
  rw [hn4] at hv4
  subst hv4
  obtain ⟨o6, p6, hv6, -, -⟩ := id h.ne
  obtain ⟨n6, hn6⟩ : ∃ n, c.ne.length = n := ⟨_, rfl⟩
  rw [hn6] at hv6
  subst hv6
  obtain ⟨o8, p8, hv8, -, -⟩ := id h.wd
  obtain ⟨n8, hn8⟩ : ∃ n, c.wd.length = n := ⟨_, rfl⟩
  rw [hn8] at hv8
  subst hv8
  obtain ⟨o9, p9, hv9, -, -⟩ := id h.lo
  obtain ⟨n9, hn9⟩ : ∃ n, c.lo.length = n := ⟨_, rfl⟩
  rw [hn9] at hv9
  subst hv9
  obtain ⟨o10, p10, hv10, -, -⟩ := id h.nt
  obtain ⟨n10, hn10⟩ : ∃ n, c.nt.length = n := ⟨_, rfl⟩
  rw [hn10] at hv10
  subst hv10
  obtain ⟨A, hA⟩ : ∃ x, c.any = x := ⟨_, rfl⟩
  obtain ⟨La, hLa⟩ : ∃ x, c.la = x := ⟨_, rfl⟩
  obtain ⟨Aw, hAw⟩ : ∃ x, c.aw = x := ⟨_, rfl⟩
  unfold cronV at CK ⊢
  rw [hA, hLa, hAw] at CK ⊢
  clear hA hLa hAw hn0 hn1 hn2 hn4 hn6 hn8 hn9 hn10 h hz hok
  have HB0 := Lib.hid ((Below.refl w.heap.size w).alloc (Nat.le_refl _) (.cells #[.slice o0 n0 p0, .slice o1 n1 p1, .slice o2 n2 p2, .bool A, .slice o4 n4 p4, .bool La, .slice o6 n6 p6, .bool Aw, .slice o8 n8 p8, .slice o9 n9 p9, .slice o10 n10 p10] 25))
  go_enter Tryz.func7, Tryz.ntmps7
  go_wp2_with (go_at_call 10; refine Calls.mono (by with_reducible exact CK.out _ HB0.out) ?_; rintro e w1 ⟨rfl, hb1⟩; have HB1 := Lib.hid (thenB HB0.out hb1); clear hb1)
  go_ret2
  exact ⟨rfl, HB1.out⟩
set_option maxHeartbeats 4000000 in
theorem rfits_off (c : Cron) (v0 v1 v2 v4 v6 v8 v9 v10 : Value) (t : Int) (w : World) (hi : InI t) (h : CronR w c v0 v1 v2 v4 v6 v8 v9 v10) (hz : CronZ c) (hok : c.ok = true) (ht : t < -345600000000 ∨ 345600086399 < t) :
    Calls Tryz.prog 5 #[cronV c v0 v1 v2 v4 v6 v8 v9 v10, .int .i64 t] w fun e w' => e = .returned (.tuple #[.bool false, .int .i64 4]) ∧ Below w.heap.size w w' := by
  have CK : Hid (∀ w0, Below w.heap.size w w0 → Calls Tryz.prog 10 #[cronV c v0 v1 v2 v4 v6 v8 v9 v10] w0 fun e w' => e = .returned (.int .i64 0) ∧ Below w0.heap.size w0 w') := Lib.hid fun w0 hb => by
    have k := rcheck_any c _ _ _ _ _ _ _ _ w0 (h.call hb) hz
    rw [hok] at k
    exact k
  have CS : Hid (∀ w0, Calls Tryz.prog 11 #[.int .i64 t] w0 fun e w' => e = .returned (.tuple #[.int .i64 0, .int .i64 0, .int .i64 4]) ∧ w0 = w') := Lib.hid fun w0 => by
    have k := refSplit_all t w0 hi
    rw [(loc_out ht).1, (loc_out ht).2.1, (loc_out ht).2.2] at k
    exact k
  obtain ⟨o0, p0, hv0, -, -⟩ := id h.mi
  obtain ⟨n0, hn0⟩ : ∃ n, c.mi.length = n := ⟨_, rfl⟩
  rw [hn0] at hv0
  subst hv0
  obtain ⟨o1, p1, hv1, -, -⟩ := id h.ho
  obtain ⟨n1, hn1⟩ : ∃ n, c.ho.length = n := ⟨_, rfl⟩
  rw [hn1] at hv1
  subst hv1
  obtain ⟨o2, p2, hv2, -, -⟩ := id h.mo
  obtain ⟨n2, hn2⟩ : ∃ n, c.mo.length = n := ⟨_, rfl⟩
  rw [hn2] at hv2
  subst hv2
  obtain ⟨o4, p4, hv4, -, -⟩ := id h.da
  obtain ⟨n4, hn4⟩ : ∃ n, c.da.length = n := ⟨_, rfl⟩
  rw [hn4] at hv4
  subst hv4
  obtain ⟨o6, p6, hv6, -, -⟩ := id h.ne
  obtain ⟨n6, hn6⟩ : ∃ n, c.ne.length = n := ⟨_, rfl⟩
  rw [hn6] at hv6
  subst hv6
  obtain ⟨o8, p8, hv8, -, -⟩ := id h.wd
  obtain ⟨n8, hn8⟩ : ∃ n, c.wd.length = n := ⟨_, rfl⟩
  rw [hn8] at hv8
  subst hv8
  obtain ⟨o9, p9, hv9, -, -⟩ := id h.lo
  obtain ⟨n9, hn9⟩ : ∃ n, c.lo.length = n := ⟨_, rfl⟩
  rw [hn9] at hv9
  subst hv9
  obtain ⟨o10, p10, hv10, -, -⟩ := id h.nt
  obtain ⟨n10, hn10⟩ : ∃ n, c.nt.length = n := ⟨_, rfl⟩
  rw [hn10] at hv10
  subst hv10
  obtain ⟨A, hA⟩ : ∃ x, c.any = x := ⟨_, rfl⟩
  obtain ⟨La, hLa⟩ : ∃ x, c.la = x := ⟨_, rfl⟩
  obtain ⟨Aw, hAw⟩ : ∃ x, c.aw = x := ⟨_, rfl⟩
  unfold cronV at CK ⊢
  rw [hA, hLa, hAw] at CK ⊢
  clear hA hLa hAw hn0 hn1 hn2 hn4 hn6 hn8 hn9 hn10 h hz hok ht hi
  have HB0 := Lib.hid ((Below.refl w.heap.size w).alloc (Nat.le_refl _) (.cells #[.slice o0 n0 p0, .slice o1 n1 p1, .slice o2 n2 p2, .bool A, .slice o4 n4 p4, .bool La, .slice o6 n6 p6, .bool Aw, .slice o8 n8 p8, .slice o9 n9 p9, .slice o10 n10 p10] 25))
  go_enter Tryz.func5, Tryz.ntmps5
  go_wp2_with (first
    | (go_at_call 10; refine Calls.mono (by with_reducible exact CK.out _ HB0.out) ?_; rintro e w1 ⟨rfl, hb1⟩; have HB1 := Lib.hid (thenB HB0.out hb1); clear hb1)
    | (go_at_call 11; (with_reducible refine (CS.out _).mono ?_); rintro e w2 ⟨rfl, rfl⟩))
  go_ret2
  exact ⟨rfl, HB1.out⟩
set_option maxHeartbeats 4000000 in
theorem rnext_off (c : Cron) (v0 v1 v2 v4 v6 v8 v9 v10 : Value) (t : Int) (w : World) (hi : InI t) (h : CronR w c v0 v1 v2 v4 v6 v8 v9 v10) (hz : CronZ c) (hok : c.ok = true) (ht : t < -345600000000 ∨ 345600086399 < t) :
    Calls Tryz.prog 7 #[cronV c v0 v1 v2 v4 v6 v8 v9 v10, .int .i64 t] w fun e w' => e = .returned (.tuple #[.int .i64 0, .int .i64 4]) ∧ Below w.heap.size w w' := by
  have CK : Hid (∀ w0, Below w.heap.size w w0 → Calls Tryz.prog 10 #[cronV c v0 v1 v2 v4 v6 v8 v9 v10] w0 fun e w' => e = .returned (.int .i64 0) ∧ Below w0.heap.size w0 w') := Lib.hid fun w0 hb => by
    have k := rcheck_any c _ _ _ _ _ _ _ _ w0 (h.call hb) hz
    rw [hok] at k
    exact k
  have CS : Hid (∀ w0, Calls Tryz.prog 11 #[.int .i64 t] w0 fun e w' => e = .returned (.tuple #[.int .i64 0, .int .i64 0, .int .i64 4]) ∧ w0 = w') := Lib.hid fun w0 => by
    have k := refSplit_all t w0 hi
    rw [(loc_out ht).1, (loc_out ht).2.1, (loc_out ht).2.2] at k
    exact k
  obtain ⟨o0, p0, hv0, -, -⟩ := id h.mi
  obtain ⟨n0, hn0⟩ : ∃ n, c.mi.length = n := ⟨_, rfl⟩
  rw [hn0] at hv0
  subst hv0
  obtain ⟨o1, p1, hv1, -, -⟩ := id h.ho
  obtain ⟨n1, hn1⟩ : ∃ n, c.ho.length = n := ⟨_, rfl⟩
  rw [hn1] at hv1
  subst hv1
  obtain ⟨o2, p2, hv2, -, -⟩ := id h.mo
  obtain ⟨n2, hn2⟩ : ∃ n, c.mo.length = n := ⟨_, rfl⟩
  rw [hn2] at hv2
  subst hv2
  obtain ⟨o4, p4, hv4, -, -⟩ := id h.da
  obtain ⟨n4, hn4⟩ : ∃ n, c.da.length = n := ⟨_, rfl⟩
  rw [hn4] at hv4
  subst hv4
  obtain ⟨o6, p6, hv6, -, -⟩ := id h.ne
  obtain ⟨n6, hn6⟩ : ∃ n, c.ne.length = n := ⟨_, rfl⟩
  rw [hn6] at hv6
  subst hv6
  obtain ⟨o8, p8, hv8, -, -⟩ := id h.wd
  obtain ⟨n8, hn8⟩ : ∃ n, c.wd.length = n := ⟨_, rfl⟩
  rw [hn8] at hv8
  subst hv8
  obtain ⟨o9, p9, hv9, -, -⟩ := id h.lo
  obtain ⟨n9, hn9⟩ : ∃ n, c.lo.length = n := ⟨_, rfl⟩
  rw [hn9] at hv9
  subst hv9
  obtain ⟨o10, p10, hv10, -, -⟩ := id h.nt
  obtain ⟨n10, hn10⟩ : ∃ n, c.nt.length = n := ⟨_, rfl⟩
  rw [hn10] at hv10
  subst hv10
  obtain ⟨A, hA⟩ : ∃ x, c.any = x := ⟨_, rfl⟩
  obtain ⟨La, hLa⟩ : ∃ x, c.la = x := ⟨_, rfl⟩
  obtain ⟨Aw, hAw⟩ : ∃ x, c.aw = x := ⟨_, rfl⟩
  unfold cronV at CK ⊢
  rw [hA, hLa, hAw] at CK ⊢
  clear hA hLa hAw hn0 hn1 hn2 hn4 hn6 hn8 hn9 hn10 h hz hok ht hi
  have HB0 := Lib.hid ((Below.refl w.heap.size w).alloc (Nat.le_refl _) (.cells #[.slice o0 n0 p0, .slice o1 n1 p1, .slice o2 n2 p2, .bool A, .slice o4 n4 p4, .bool La, .slice o6 n6 p6, .bool Aw, .slice o8 n8 p8, .slice o9 n9 p9, .slice o10 n10 p10] 25))
  go_enter Tryz.func7, Tryz.ntmps7
  go_wp2_with (first
    | (go_at_call 10; refine Calls.mono (by with_reducible exact CK.out _ HB0.out) ?_; rintro e w1 ⟨rfl, hb1⟩; have HB1 := Lib.hid (thenB HB0.out hb1); clear hb1)
    | (go_at_call 11; (with_reducible refine (CS.out _).mono ?_); rintro e w2 ⟨rfl, rfl⟩))
  go_ret2
  exact ⟨rfl, HB1.out⟩
def FitsQ (FT : Bool → Int → Prop) (w : World) (e : Ending) (w' : World) : Prop := ∃ b, e = .returned (.tuple #[.bool b, .int .i64 0]) ∧ FT b 0 ∧ Below w.heap.size w w'
set_option maxRecDepth 100000 in
set_option maxHeartbeats 8000000 in
theorem rfits_ok (c : Cron) (v0 v1 v2 v4 v6 v8 v9 v10 : Value) (t : Int) (w : World) (hi : InI t) (h : CronR w c v0 v1 v2 v4 v6 v8 v9 v10) (hz : CronZ c) (hok : c.ok = true) (h1 : -345600000000 ≤ t) (h2 : t ≤ 345600086399) :
    Calls Tryz.prog 5 #[cronV c v0 v1 v2 v4 v6 v8 v9 v10, .int .i64 t] w (FitsQ (FtR c t) w) := by
  have CK : Hid (∀ w0, Below w.heap.size w w0 → Calls Tryz.prog 10 #[cronV c v0 v1 v2 v4 v6 v8 v9 v10] w0 fun e w' => e = .returned (.int .i64 0) ∧ Below w0.heap.size w0 w') := Lib.hid fun w0 hb => by
    have k := rcheck_any c _ _ _ _ _ _ _ _ w0 (h.call hb) hz
    rw [hok] at k
    exact k
  obtain ⟨D, hD⟩ : ∃ D, t / 86400 = D := ⟨_, rfl⟩
  obtain ⟨S, hS⟩ : ∃ S, t % 86400 = S := ⟨_, rfl⟩
  have s1 : 0 ≤ S := by omega
  have s2 : S < 86400 := by omega
  have CS : Hid (∀ w0, Calls Tryz.prog 11 #[.int .i64 t] w0 fun e w' => e = .returned (.tuple #[.int .i64 D, .int .i64 S, .int .i64 0]) ∧ w0 = w') := Lib.hid fun w0 => by
    have k := refSplit_all t w0 hi
    rw [(loc_in h1 h2).1, (loc_in h1 h2).2.1, (loc_in h1 h2).2.2, hD, hS] at k
    exact k
  obtain ⟨B0, hB0⟩ : ∃ B, decide (S / 60 % 60 ∈ c.mi) = B := ⟨_, rfl⟩
  obtain ⟨B1, hB1⟩ : ∃ B, decide (S / 3600 ∈ c.ho) = B := ⟨_, rfl⟩
  have C0 : Hid (∀ w0, Below w.heap.size w w0 → Calls Tryz.prog 12 #[v0, .int .i64 (S / 60 % 60)] w0 fun e w' => e = .returned (.bool B0) ∧ w0 = w') := Lib.hid fun w0 hb => hB0 ▸ (memberI_any v0 c.mi _ w0 (h.call hb).mi hz.mi).mono fun _ _ ⟨e1, e2⟩ => ⟨e1, e2.symm⟩
  have C1 : Hid (∀ w0, Below w.heap.size w w0 → Calls Tryz.prog 12 #[v1, .int .i64 (S / 3600)] w0 fun e w' => e = .returned (.bool B1) ∧ w0 = w') := Lib.hid fun w0 hb => hB1 ▸ (memberI_any v1 c.ho _ w0 (h.call hb).ho hz.ho).mono fun _ _ ⟨e1, e2⟩ => ⟨e1, e2.symm⟩
  have CF : Hid (∀ w0, Below w.heap.size w w0 → Calls Tryz.prog 13 #[cronV c v0 v1 v2 v4 v6 v8 v9 v10, .int .i64 D] w0 (FitS c D w0)) := Lib.hid fun w0 hb => cronDay_any c _ _ _ _ _ _ _ _ D w0 (h.call hb) hz (ok_good hok) (by omega) (by omega)
  have HG : Hid (∀ f, ((B0 && B1) = true → FitP c D f) → FtR c t (B0 && B1 && f) 0) := Lib.hid fun f hf => by
    have := FtR.ok (c := c) (t := t) f hok ⟨h1, h2⟩ (by rw [hD, hS, hB0, hB1]; exact hf)
    rw [hS, hB0, hB1] at this
    exact this
  have HF : Hid (∀ f, FitP c D f → FtR c t (B0 && B1 && f) 0) := Lib.hid fun f hf => HG.out f fun _ => hf
  have HE : Hid ((B0 && B1) = false → FtR c t false 0) := Lib.hid fun hb => by
    have k := HG.out false (fun h => by rw [hb] at h; cases h)
    rw [Bool.and_false] at k
    exact k
  clear HG
  unfold FitS at CF
  obtain ⟨FP, hFP⟩ : ∃ x, FitP c D = x := ⟨_, rfl⟩
  obtain ⟨FT, hFT⟩ : ∃ x, FtR c t = x := ⟨_, rfl⟩
  rw [hFP] at CF HF
  rw [hFT] at HF HE ⊢
  clear hD hS hB0 hB1 h1 h2 hFP hFT hi
  obtain ⟨o0, p0, hv0, -, -⟩ := id h.mi
  obtain ⟨n0, hn0⟩ : ∃ n, c.mi.length = n := ⟨_, rfl⟩
  rw [hn0] at hv0
  subst hv0
  obtain ⟨o1, p1, hv1, -, -⟩ := id h.ho
  obtain ⟨n1, hn1⟩ : ∃ n, c.ho.length = n := ⟨_, rfl⟩
  rw [hn1] at hv1
  subst hv1
  obtain ⟨o2, p2, hv2, -, -⟩ := id h.mo
  obtain ⟨n2, hn2⟩ : ∃ n, c.mo.length = n := ⟨_, rfl⟩
  rw [hn2] at hv2
  subst hv2
  obtain ⟨o4, p4, hv4, -, -⟩ := id h.da
  obtain ⟨n4, hn4⟩ : ∃ n, c.da.length = n := ⟨_, rfl⟩
  rw [hn4] at hv4
  subst hv4
  obtain ⟨o6, p6, hv6, -, -⟩ := id h.ne
  obtain ⟨n6, hn6⟩ : ∃ n, c.ne.length = n := ⟨_, rfl⟩
  rw [hn6] at hv6
  subst hv6
  obtain ⟨o8, p8, hv8, -, -⟩ := id h.wd
  obtain ⟨n8, hn8⟩ : ∃ n, c.wd.length = n := ⟨_, rfl⟩
  rw [hn8] at hv8
  subst hv8
  obtain ⟨o9, p9, hv9, -, -⟩ := id h.lo
  obtain ⟨n9, hn9⟩ : ∃ n, c.lo.length = n := ⟨_, rfl⟩
  rw [hn9] at hv9
  subst hv9
  obtain ⟨o10, p10, hv10, -, -⟩ := id h.nt
  obtain ⟨n10, hn10⟩ : ∃ n, c.nt.length = n := ⟨_, rfl⟩
  rw [hn10] at hv10
  subst hv10
  obtain ⟨A, hA⟩ : ∃ x, c.any = x := ⟨_, rfl⟩
  obtain ⟨La, hLa⟩ : ∃ x, c.la = x := ⟨_, rfl⟩
  obtain ⟨Aw, hAw⟩ : ∃ x, c.aw = x := ⟨_, rfl⟩
  unfold cronV at CK CF ⊢
  rw [hA, hLa, hAw] at CK CF ⊢
  clear hA hLa hAw hn0 hn1 hn2 hn4 hn6 hn8 hn9 hn10 h hz hok
  obtain ⟨wB, hwB⟩ : ∃ x, w.alloc (.cells #[.slice o0 n0 p0, .slice o1 n1 p1, .slice o2 n2 p2, .bool A, .slice o4 n4 p4, .bool La, .slice o6 n6 p6, .bool Aw, .slice o8 n8 p8, .slice o9 n9 p9, .slice o10 n10 p10] 25) = x := ⟨_, rfl⟩
  have HBB : Hid (Below w.heap.size w wB) := Lib.hid (by rw [← hwB]; exact (Below.refl _ _).alloc (Nat.le_refl _) _)
  have hlt : w.heap.size < wB.heap.size := by rw [← hwB]; simp
  have HQ0 : Hid (wB.cell? ⟨w.heap.size, 0, none⟩ = some (.slice o0 n0 p0)) := Lib.hid (by rw [← hwB]; simp)
  have HQ1 : Hid (wB.cell? ⟨w.heap.size, 1, none⟩ = some (.slice o1 n1 p1)) := Lib.hid (by rw [← hwB]; simp)
  have HQ2 : Hid (wB.cell? ⟨w.heap.size, 2, none⟩ = some (.slice o2 n2 p2)) := Lib.hid (by rw [← hwB]; simp)
  have HQ3 : Hid (wB.cell? ⟨w.heap.size, 3, none⟩ = some (.bool A)) := Lib.hid (by rw [← hwB]; simp)
  have HQ4 : Hid (wB.cell? ⟨w.heap.size, 4, none⟩ = some (.slice o4 n4 p4)) := Lib.hid (by rw [← hwB]; simp)
  have HQ5 : Hid (wB.cell? ⟨w.heap.size, 5, none⟩ = some (.bool La)) := Lib.hid (by rw [← hwB]; simp)
  have HQ6 : Hid (wB.cell? ⟨w.heap.size, 6, none⟩ = some (.slice o6 n6 p6)) := Lib.hid (by rw [← hwB]; simp)
  have HQ7 : Hid (wB.cell? ⟨w.heap.size, 7, none⟩ = some (.bool Aw)) := Lib.hid (by rw [← hwB]; simp)
  have HQ8 : Hid (wB.cell? ⟨w.heap.size, 8, none⟩ = some (.slice o8 n8 p8)) := Lib.hid (by rw [← hwB]; simp)
  have HQ9 : Hid (wB.cell? ⟨w.heap.size, 9, none⟩ = some (.slice o9 n9 p9)) := Lib.hid (by rw [← hwB]; simp)
  have HQ10 : Hid (wB.cell? ⟨w.heap.size, 10, none⟩ = some (.slice o10 n10 p10)) := Lib.hid (by rw [← hwB]; simp)
  have HwB := Lib.hid hwB
  clear hwB
  have HB0 := Lib.hid ((Below.refl w.heap.size w).alloc (Nat.le_refl _) (.cells #[.slice o0 n0 p0, .slice o1 n1 p1, .slice o2 n2 p2, .bool A, .slice o4 n4 p4, .bool La, .slice o6 n6 p6, .bool Aw, .slice o8 n8 p8, .slice o9 n9 p9, .slice o10 n10 p10] 25))
  go_enter Tryz.func5, Tryz.ntmps5
  go_upto_region 7 with (first
    | (go_at_call 10; refine Calls.mono (by with_reducible exact CK.out _ HB0.out) ?_; rintro e w1 ⟨rfl, hb1⟩; rw [HwB.out] at hb1; have HB1 := Lib.hid hb1; clear hb1)
    | (go_at_call 11; (with_reducible refine (CS.out _).mono ?_); rintro e w3 ⟨rfl, rfl⟩))
  have HWA := Lib.hid (HBB.out.trans (HB1.out.mono HBB.out.size))
  have c0 := (HB1.out.cell (p := ⟨w.heap.size, 0, none⟩) hlt).trans HQ0.out
  have c1 := (HB1.out.cell (p := ⟨w.heap.size, 1, none⟩) hlt).trans HQ1.out
  have c2 := (HB1.out.cell (p := ⟨w.heap.size, 2, none⟩) hlt).trans HQ2.out
  have c3 := (HB1.out.cell (p := ⟨w.heap.size, 3, none⟩) hlt).trans HQ3.out
  have c4 := (HB1.out.cell (p := ⟨w.heap.size, 4, none⟩) hlt).trans HQ4.out
  have c5 := (HB1.out.cell (p := ⟨w.heap.size, 5, none⟩) hlt).trans HQ5.out
  have c6 := (HB1.out.cell (p := ⟨w.heap.size, 6, none⟩) hlt).trans HQ6.out
  have c7 := (HB1.out.cell (p := ⟨w.heap.size, 7, none⟩) hlt).trans HQ7.out
  have c8 := (HB1.out.cell (p := ⟨w.heap.size, 8, none⟩) hlt).trans HQ8.out
  have c9 := (HB1.out.cell (p := ⟨w.heap.size, 9, none⟩) hlt).trans HQ9.out
  have c10 := (HB1.out.cell (p := ⟨w.heap.size, 10, none⟩) hlt).trans HQ10.out
  cases B0 with
  | false =>
    go_wp2_with (go_at_call 12; (with_reducible refine (C0.out _ HWA.out).mono ?_); rintro e w4 ⟨rfl, rfl⟩)
    go_ret2
    exact ⟨false, rfl, HE.out rfl, HWA.out⟩
  | true =>
    cases B1 with
    | false =>
      go_wp2_with (first
        | (go_at_call 12; (with_reducible refine (C0.out _ HWA.out).mono ?_); rintro e w4 ⟨rfl, rfl⟩)
        | (go_at_call 12; (with_reducible refine (C1.out _ HWA.out).mono ?_); rintro e w4 ⟨rfl, rfl⟩))
      go_ret2
      exact ⟨false, rfl, HE.out rfl, HWA.out⟩
    | true =>
      go_wp2_with (first
        | (go_at_call 12; (with_reducible refine (C0.out _ HWA.out).mono ?_); rintro e w4 ⟨rfl, rfl⟩)
        | (go_at_call 12; (with_reducible refine (C1.out _ HWA.out).mono ?_); rintro e w4 ⟨rfl, rfl⟩)
        | (go_at_call 13; (with_reducible refine (CF.out _ HWA.out).mono ?_); rintro e w5 ⟨b, rfl, hF, hb5⟩; have HFb := Lib.hid (HF.out b hF); have HB5 := Lib.hid (thenB HWA.out hb5); clear hF hb5))
      go_ret2
      exact ⟨b, rfl, HFb.out, HB5.out⟩
/-- No hit among the minutes before x of day n. -/
def NoneTo (c : Cron) (t n x : Int) : Prop := ∀ x', x' < x → ¬ Hit c t n x'
theorem NoneTo.next {c : Cron} {t n x : Int} (h : NoneTo c t n x) (hn : ¬ Hit c t n x) : NoneTo c t n (x + 1) := fun x' hx => by
  by_cases e : x' < x
  · exact h x' e
  · obtain rfl : x' = x := by omega
    exact hn
theorem NoneTo.day {c : Cron} {t a n : Int} (hy : NoneYet c t a n) (h : NoneTo c t n 1440) : NoneYet c t a (n + 1) := fun n' x h1 h2 hh => by
  by_cases e : n' < n
  · exact hy n' x h1 e hh
  · obtain rfl : n' = n := by omega
    exact h x hh.hi hh
theorem NoneTo.found {c : Cron} {t a b n x : Int} (hy : NoneYet c t a n) (ha : a ≤ n) (hb : n ≤ b) (h : NoneTo c t n x) (hh : Hit c t n x) : NextP c t a b (some ((n * 1440 + x) * 60)) := by
  refine ⟨⟨n, x, ha, hb, hh, rfl⟩, fun n' x' h1 h2 h3 => ?_⟩
  by_cases e : n' < n
  · exact absurd h3 (hy n' x' h1 e)
  · by_cases e2 : n < n'
    · have := h3.lo
      have := hh.hi
      omega
    · obtain rfl : n' = n := by omega
      by_cases e3 : x' < x
      · exact absurd h3 (h x' e3)
      · omega
def NextQ (FT : Int → Int → Prop) (w : World) (e : Ending) (w' : World) : Prop := ∃ v x, e = .returned (.tuple #[.int .i64 v, .int .i64 x]) ∧ FT v x ∧ Below w.heap.size w w'
set_option maxRecDepth 100000 in
set_option maxHeartbeats 8000000 in
theorem rnext_ok (c : Cron) (v0 v1 v2 v4 v6 v8 v9 v10 : Value) (t : Int) (w : World) (hi : InI t) (h : CronR w c v0 v1 v2 v4 v6 v8 v9 v10) (hz : CronZ c) (hok : c.ok = true) (h1 : -345600000000 ≤ t) (h2 : t ≤ 345600086399) :
    Calls Tryz.prog 7 #[cronV c v0 v1 v2 v4 v6 v8 v9 v10, .int .i64 t] w (NextQ (NxR c t) w) := by
  have CK : Hid (∀ w0, Below w.heap.size w w0 → Calls Tryz.prog 10 #[cronV c v0 v1 v2 v4 v6 v8 v9 v10] w0 fun e w' => e = .returned (.int .i64 0) ∧ Below w0.heap.size w0 w') := Lib.hid fun w0 hb => by
    have k := rcheck_any c _ _ _ _ _ _ _ _ w0 (h.call hb) hz
    rw [hok] at k
    exact k
  obtain ⟨S, hS⟩ : ∃ S, t % 86400 = S := ⟨_, rfl⟩
  have HH : Hid (∀ r, NextP c t (t / 86400) (lastD (t / 86400)) (some r) → NxR c t r 0) := Lib.hid fun r hn => .hit r hok ⟨h1, h2⟩ hn
  have HNo : Hid (NextP c t (t / 86400) (lastD (t / 86400)) none → NxR c t 0 12) := Lib.hid fun hn => .none hok ⟨h1, h2⟩ hn
  obtain ⟨D, hD⟩ : ∃ D, t / 86400 = D := ⟨_, rfl⟩
  have CS : Hid (∀ w0, Calls Tryz.prog 11 #[.int .i64 t] w0 fun e w' => e = .returned (.tuple #[.int .i64 D, .int .i64 S, .int .i64 0]) ∧ w0 = w') := Lib.hid fun w0 => by
    have k := refSplit_all t w0 hi
    rw [(loc_in h1 h2).1, (loc_in h1 h2).2.1, (loc_in h1 h2).2.2, hD, hS] at k
    exact k
  have hD1 : -4000000 ≤ D := by omega
  have hD2 : D ≤ 4000000 := by omega
  rw [hD] at HH HNo
  have CF : Hid (∀ w0 n, Below w.heap.size w w0 → -4000000 ≤ n → n ≤ 4000000 → Calls Tryz.prog 13 #[cronV c v0 v1 v2 v4 v6 v8 v9 v10, .int .i64 n] w0 (FitS c n w0)) := Lib.hid fun w0 n hb n1 n2 => cronDay_any c _ _ _ _ _ _ _ _ n w0 (h.call hb) hz (ok_good hok) n1 n2
  have C0 : Hid (∀ w0 x, Below w.heap.size w w0 → Calls Tryz.prog 12 #[v0, .int .i64 x] w0 fun e w' => e = .returned (.bool (decide (x ∈ c.mi))) ∧ w0 = w') := Lib.hid fun w0 x hb => (memberI_any v0 c.mi _ w0 (h.call hb).mi hz.mi).mono fun _ _ ⟨e1, e2⟩ => ⟨e1, e2.symm⟩
  have C1 : Hid (∀ w0 x, Below w.heap.size w w0 → Calls Tryz.prog 12 #[v1, .int .i64 x] w0 fun e w' => e = .returned (.bool (decide (x ∈ c.ho))) ∧ w0 = w') := Lib.hid fun w0 x hb => (memberI_any v1 c.ho _ w0 (h.call hb).ho hz.ho).mono fun _ _ ⟨e1, e2⟩ => ⟨e1, e2.symm⟩
  unfold FitS at CF
  clear hD hS h1 h2 hi
  obtain ⟨o0, p0, hv0, -, -⟩ := id h.mi
  obtain ⟨n0, hn0⟩ : ∃ n, c.mi.length = n := ⟨_, rfl⟩
  rw [hn0] at hv0
  subst hv0
  obtain ⟨o1, p1, hv1, -, -⟩ := id h.ho
  obtain ⟨n1, hn1⟩ : ∃ n, c.ho.length = n := ⟨_, rfl⟩
  rw [hn1] at hv1
  subst hv1
  obtain ⟨o2, p2, hv2, -, -⟩ := id h.mo
  obtain ⟨n2, hn2⟩ : ∃ n, c.mo.length = n := ⟨_, rfl⟩
  rw [hn2] at hv2
  subst hv2
  obtain ⟨o4, p4, hv4, -, -⟩ := id h.da
  obtain ⟨n4, hn4⟩ : ∃ n, c.da.length = n := ⟨_, rfl⟩
  rw [hn4] at hv4
  subst hv4
  obtain ⟨o6, p6, hv6, -, -⟩ := id h.ne
  obtain ⟨n6, hn6⟩ : ∃ n, c.ne.length = n := ⟨_, rfl⟩
  rw [hn6] at hv6
  subst hv6
  obtain ⟨o8, p8, hv8, -, -⟩ := id h.wd
  obtain ⟨n8, hn8⟩ : ∃ n, c.wd.length = n := ⟨_, rfl⟩
  rw [hn8] at hv8
  subst hv8
  obtain ⟨o9, p9, hv9, -, -⟩ := id h.lo
  obtain ⟨n9, hn9⟩ : ∃ n, c.lo.length = n := ⟨_, rfl⟩
  rw [hn9] at hv9
  subst hv9
  obtain ⟨o10, p10, hv10, -, -⟩ := id h.nt
  obtain ⟨n10, hn10⟩ : ∃ n, c.nt.length = n := ⟨_, rfl⟩
  rw [hn10] at hv10
  subst hv10
  obtain ⟨A, hA⟩ : ∃ x, c.any = x := ⟨_, rfl⟩
  obtain ⟨La, hLa⟩ : ∃ x, c.la = x := ⟨_, rfl⟩
  obtain ⟨Aw, hAw⟩ : ∃ x, c.aw = x := ⟨_, rfl⟩
  unfold cronV at CK CF ⊢
  rw [hA, hLa, hAw] at CK CF ⊢
  clear hA hLa hAw hn0 hn1 hn2 hn4 hn6 hn8 hn9 hn10 h hz hok
  obtain ⟨E, hE, hE1, hE2, hE3⟩ : ∃ E, lastD D = E ∧ D ≤ E ∧ E ≤ 4000000 ∧ ∀ n, n ≤ E ↔ (n ≤ D + 10957 ∧ n ≤ 4000000) := ⟨_, rfl, by unfold lastD; split <;> omega, by unfold lastD; split <;> omega, by intro n; unfold lastD; split <;> omega⟩
  rw [hE] at HH HNo
  have HEn := Lib.hid hE3
  clear hE hE3
  obtain ⟨wB, hwB⟩ : ∃ x, w.alloc (.cells #[.slice o0 n0 p0, .slice o1 n1 p1, .slice o2 n2 p2, .bool A, .slice o4 n4 p4, .bool La, .slice o6 n6 p6, .bool Aw, .slice o8 n8 p8, .slice o9 n9 p9, .slice o10 n10 p10] 25) = x := ⟨_, rfl⟩
  have HBB : Hid (Below w.heap.size w wB) := Lib.hid (by rw [← hwB]; exact (Below.refl _ _).alloc (Nat.le_refl _) _)
  have hlt : w.heap.size < wB.heap.size := by rw [← hwB]; simp
  have HQ0 : Hid (wB.cell? ⟨w.heap.size, 0, none⟩ = some (.slice o0 n0 p0)) := Lib.hid (by rw [← hwB]; simp)
  have HQ1 : Hid (wB.cell? ⟨w.heap.size, 1, none⟩ = some (.slice o1 n1 p1)) := Lib.hid (by rw [← hwB]; simp)
  have HQ2 : Hid (wB.cell? ⟨w.heap.size, 2, none⟩ = some (.slice o2 n2 p2)) := Lib.hid (by rw [← hwB]; simp)
  have HQ3 : Hid (wB.cell? ⟨w.heap.size, 3, none⟩ = some (.bool A)) := Lib.hid (by rw [← hwB]; simp)
  have HQ4 : Hid (wB.cell? ⟨w.heap.size, 4, none⟩ = some (.slice o4 n4 p4)) := Lib.hid (by rw [← hwB]; simp)
  have HQ5 : Hid (wB.cell? ⟨w.heap.size, 5, none⟩ = some (.bool La)) := Lib.hid (by rw [← hwB]; simp)
  have HQ6 : Hid (wB.cell? ⟨w.heap.size, 6, none⟩ = some (.slice o6 n6 p6)) := Lib.hid (by rw [← hwB]; simp)
  have HQ7 : Hid (wB.cell? ⟨w.heap.size, 7, none⟩ = some (.bool Aw)) := Lib.hid (by rw [← hwB]; simp)
  have HQ8 : Hid (wB.cell? ⟨w.heap.size, 8, none⟩ = some (.slice o8 n8 p8)) := Lib.hid (by rw [← hwB]; simp)
  have HQ9 : Hid (wB.cell? ⟨w.heap.size, 9, none⟩ = some (.slice o9 n9 p9)) := Lib.hid (by rw [← hwB]; simp)
  have HQ10 : Hid (wB.cell? ⟨w.heap.size, 10, none⟩ = some (.slice o10 n10 p10)) := Lib.hid (by rw [← hwB]; simp)
  have HwB := Lib.hid hwB
  clear hwB
  have HB0 := Lib.hid ((Below.refl w.heap.size w).alloc (Nat.le_refl _) (.cells #[.slice o0 n0 p0, .slice o1 n1 p1, .slice o2 n2 p2, .bool A, .slice o4 n4 p4, .bool La, .slice o6 n6 p6, .bool Aw, .slice o8 n8 p8, .slice o9 n9 p9, .slice o10 n10 p10] 25))
  go_enter Tryz.func7, Tryz.ntmps7
  go_wp2_with (first
    | (go_at_call 10; refine Calls.mono (by with_reducible exact CK.out _ HB0.out) ?_; rintro e w1 ⟨rfl, hb1⟩; rw [HwB.out] at hb1; have HB1 := Lib.hid hb1; clear hb1)
    | (go_at_call 11; (with_reducible refine (CS.out _).mono ?_); rintro e w3 ⟨rfl, rfl⟩))
  go_loopw [10] (fun s wr => ∃ n : Int, s = .int .i64 n ∧ D ≤ n ∧ n ≤ E + 1 ∧ Hid (NoneYet c t D n) ∧ Hid (Below wB.heap.size wB wr)) (fun s _ => (4000001 - intOf s).toNat)
  case atStart => exact ⟨D, rfl, by omega, by omega, Lib.hid (fun n' x h1 h2 => by omega), HB1⟩
  case round =>
    obtain ⟨n, rfl, hn1, hn2, HY, HB⟩ := hrel
    obtain ⟨wL, rfl⟩ : ∃ wo : World, wo = wr := ⟨_, rfl⟩
    by_cases hne : n ≤ E
    · have hle : n ≤ E := hne
      obtain ⟨hx1, hx2⟩ := (HEn.out n).1 hne
      have hy1 : decide (n ≤ D + 10957) = true := decide_eq_true hx1
      have HN1a : -4000000 ≤ n := by omega
      have HN2a : n ≤ 4000000 := by omega
      have HW := Lib.hid (HBB.out.trans (HB.out.mono HBB.out.size))
      have hwl := Nat.lt_of_lt_of_le hlt HB.out.size
      have c0 := (HB.out.cell (p := ⟨w.heap.size, 0, none⟩) hlt).trans HQ0.out
      have c1 := (HB.out.cell (p := ⟨w.heap.size, 1, none⟩) hlt).trans HQ1.out
      have c2 := (HB.out.cell (p := ⟨w.heap.size, 2, none⟩) hlt).trans HQ2.out
      have c3 := (HB.out.cell (p := ⟨w.heap.size, 3, none⟩) hlt).trans HQ3.out
      have c4 := (HB.out.cell (p := ⟨w.heap.size, 4, none⟩) hlt).trans HQ4.out
      have c5 := (HB.out.cell (p := ⟨w.heap.size, 5, none⟩) hlt).trans HQ5.out
      have c6 := (HB.out.cell (p := ⟨w.heap.size, 6, none⟩) hlt).trans HQ6.out
      have c7 := (HB.out.cell (p := ⟨w.heap.size, 7, none⟩) hlt).trans HQ7.out
      have c8 := (HB.out.cell (p := ⟨w.heap.size, 8, none⟩) hlt).trans HQ8.out
      have c9 := (HB.out.cell (p := ⟨w.heap.size, 9, none⟩) hlt).trans HQ9.out
      have c10 := (HB.out.cell (p := ⟨w.heap.size, 10, none⟩) hlt).trans HQ10.out
      go_upto_if 41 with (go_at_call 13; (with_reducible refine (CF.out _ _ HW.out HN1a HN2a).mono ?_); rintro e w4 ⟨b, rfl, hF, hb4⟩; have HFb := Lib.hid hF; have HB4 := Lib.hid hb4; clear hF hb4)
      have HBn := Lib.hid (thenB HB.out HB4.out)
      have HW4 := Lib.hid (thenB HW.out HB4.out)
      have d0 := (HB4.out.cell (p := ⟨w.heap.size, 0, none⟩) hwl).trans c0
      have d1 := (HB4.out.cell (p := ⟨w.heap.size, 1, none⟩) hwl).trans c1
      clear c0 c1 c2 c3 c4 c5 c6 c7 c8 c9 c10
      cases b with
      | false =>
        have HY2 := Lib.hid (HY.out.skip HFb.out)
        go_wp2_with fail
        go_roundw
        case rel => exact ⟨n + 1, by go_num, by omega, by omega, HY2, HBn⟩
        case measure => simp [intOf]; omega
      | true =>
        go_wp2_with fail
        simp only [Bool.not_true]
        go_loop [11] (fun s => ∃ x : Int, s = .int .i64 x ∧ 0 ≤ x ∧ x ≤ 1440 ∧ Hid (NoneTo c t n x)) (fun s => (1440 - intOf s).toNat)
        case atStart => exact ⟨0, rfl, by omega, by omega, Lib.hid fun x' hx hh => by have := hh.lo; omega⟩
        case round =>
          obtain ⟨x, rfl, hx0, hx1, HX⟩ := hrel
          by_cases hx : x < 1440
          · by_cases ht : t < n * 86400 + x * 60
            · have hdt : decide (t < n * 86400 + x * 60) = true := decide_eq_true ht
              obtain ⟨Bh, hBh⟩ : ∃ B, decide (x / 60 ∈ c.ho) = B := ⟨_, rfl⟩
              obtain ⟨Bi, hBi⟩ : ∃ B, decide (x % 60 ∈ c.mi) = B := ⟨_, rfl⟩
              have C12 : Hid (Calls Tryz.prog 12 #[.slice o1 n1 p1, .int .i64 (x / 60)] w4 fun e w' => e = .returned (.bool Bh) ∧ w4 = w') := Lib.hid (hBh ▸ C1.out w4 _ HW4.out)
              have C02 : Hid (Calls Tryz.prog 12 #[.slice o0 n0 p0, .int .i64 (x % 60)] w4 fun e w' => e = .returned (.bool Bi) ∧ w4 = w') := Lib.hid (hBi ▸ C0.out w4 _ HW4.out)
              have HNh : Hid (Bh = false → NoneTo c t n (x + 1)) := Lib.hid fun hb => HX.out.next fun hh => of_decide_eq_false (hBh.trans hb) hh.ho
              have HNi : Hid (Bi = false → NoneTo c t n (x + 1)) := Lib.hid fun hb => HX.out.next fun hh => of_decide_eq_false (hBi.trans hb) hh.mi
              have HHit : Hid (Bh = true → Bi = true → NxR c t (n * 86400 + x * 60) 0) := Lib.hid fun hb1 hb2 => by
                have k := HH.out _ (NoneTo.found HY.out hn1 hle HX.out (⟨HFb.out, hx0, hx, of_decide_eq_true (hBh.trans hb1), of_decide_eq_true (hBi.trans hb2), by omega⟩ : Hit c t n x))
                have e : (n * 1440 + x) * 60 = n * 86400 + x * 60 := by omega
                rwa [e] at k
              clear hBh hBi
              cases Bh with
              | false =>
                have HX2 := Lib.hid (HNh.out rfl)
                clear HHit HNh HNi
                go_wp2_with (go_at_call 12; (with_reducible refine C12.out.mono ?_); rintro e w5 ⟨rfl, rfl⟩)
                go_round
                case rel => exact ⟨x + 1, by go_num, by omega, by omega, HX2⟩
                case measure => simp [intOf]; omega
              | true =>
                cases Bi with
                | false =>
                  have HX2 := Lib.hid (HNi.out rfl)
                  clear HHit HNh HNi
                  go_wp2_with (first
                    | (go_at_call 12; (with_reducible refine C12.out.mono ?_); rintro e w5 ⟨rfl, rfl⟩)
                    | (go_at_call 12; (with_reducible refine C02.out.mono ?_); rintro e w5 ⟨rfl, rfl⟩))
                  go_round
                  case rel => exact ⟨x + 1, by go_num, by omega, by omega, HX2⟩
                  case measure => simp [intOf]; omega
                | true =>
                  have HHt := Lib.hid (HHit.out rfl rfl)
                  clear HHit HNh HNi
                  go_wp2_with (first
                    | (go_at_call 12; (with_reducible refine C12.out.mono ?_); rintro e w5 ⟨rfl, rfl⟩)
                    | (go_at_call 12; (with_reducible refine C02.out.mono ?_); rintro e w5 ⟨rfl, rfl⟩))
                  go_ret2
                  exact ⟨_, _, rfl, HHt.out, HBB.out.trans (HBn.out.mono HBB.out.size)⟩
            · have hdt : decide (t < n * 86400 + x * 60) = false := decide_eq_false ht
              have HX2 : Hid (NoneTo c t n (x + 1)) := Lib.hid (HX.out.next fun hh => by have := hh.later; omega)
              go_wp2_with fail
              go_round
              case rel => exact ⟨x + 1, by go_num, by omega, by omega, HX2⟩
              case measure => simp [intOf]; omega
          · obtain rfl : x = 1440 := by omega
            have HY2 := Lib.hid (NoneTo.day HY.out HX.out)
            go_wp2_with fail
            go_roundw
            case rel => exact ⟨n + 1, by go_num, by omega, by omega, HY2, HBn⟩
            case measure => simp [intOf]; omega
    · have HR : Hid (NxR c t 0 12) := Lib.hid (HNo.out (next_none (by
        have e : n = E + 1 := by omega
        rw [← e]
        exact HY.out)))
      have hq : ¬ (n ≤ D + 10957 ∧ n ≤ 4000000) := fun h => hne ((HEn.out n).2 h)
      by_cases hx1 : n ≤ D + 10957
      · have hy1 : decide (n ≤ D + 10957) = true := decide_eq_true hx1
        have hx2 : ¬ n ≤ 4000000 := fun h => hq ⟨hx1, h⟩
        have hy2 : decide (n ≤ 4000000) = false := decide_eq_false hx2
        clear hq
        go_wp2_with fail
        go_ret2
        exact ⟨_, _, rfl, HR.out, HBB.out.trans (HB.out.mono HBB.out.size)⟩
      · have hy1 : decide (n ≤ D + 10957) = false := decide_eq_false hx1
        clear hq
        go_wp2_with fail
        go_ret2
        exact ⟨_, _, rfl, HR.out, HBB.out.trans (HB.out.mono HBB.out.size)⟩
end Go.Proofs.YtdnbnpknmdcljaaGreatDoor
