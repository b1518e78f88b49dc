/- cron.Next. -/
import Derived.Test.YtdnbnpknmdcljaaGreatDoorCtmF
namespace Go.Proofs.YtdnbnpknmdcljaaGreatDoor
open Go.RowKit
/-- The last day that Next looks at. -/
def lastD (D : Int) : Int := if 4000000 < D + 10957 then 4000000 else D + 10957
/-- What Next answers. -/
inductive NxR (c : Cron) (t : Int) : Int → Int → Prop
  | bad (h : c.ok = false) : NxR c t 0 1
  | off (h : c.ok = true) (h2 : t < -345600000000 ∨ 345600086399 < t) : NxR c t 0 4
  | hit (r : Int) (h : c.ok = true) (h2 : -345600000000 ≤ t ∧ t ≤ 345600086399) (hn : NextP c t (t / 86400) (lastD (t / 86400)) (some r)) : NxR c t r 0
  | none (h : c.ok = true) (h2 : -345600000000 ≤ t ∧ t ≤ 345600086399) (hn : NextP c t (t / 86400) (lastD (t / 86400)) none) : NxR c t 0 12
theorem NxR.one {c : Cron} {t : Int} {v v' x x' : Int} (h : NxR c t v x) (h' : NxR c t v' x') : v = v' ∧ x = x' := by
  cases h with
  | bad h => cases h' with
    | bad _ => exact ⟨rfl, rfl⟩
    | off h1 _ => rw [h] at h1; cases h1
    | hit _ h1 _ _ => rw [h] at h1; cases h1
    | none h1 _ _ => rw [h] at h1; cases h1
  | off h h2 => cases h' with
    | bad h1 => rw [h] at h1; cases h1
    | off _ _ => exact ⟨rfl, rfl⟩
    | hit _ _ h3 _ => omega
    | none _ h3 _ => omega
  | hit r h h2 hn => cases h' with
    | bad h1 => rw [h] at h1; cases h1
    | off _ h3 => omega
    | hit _ _ _ hn' => have := hn.one hn'; simp at this; exact ⟨this, rfl⟩
    | none _ _ hn' => have := hn.one hn'; cases this
  | none h h2 hn => cases h' with
    | bad h1 => rw [h] at h1; cases h1
    | off _ h3 => omega
    | hit _ _ _ hn' => have := hn.one hn'; cases this
    | none _ _ hn' => exact ⟨rfl, rfl⟩
set_option maxHeartbeats 4000000 in
theorem cnext_bad (c : Cron) (v0 v1 v2 v4 v6 v8 v9 v10 : Value) (t : Int) (w : World) (h : CronR w c v0 v1 v2 v4 v6 v8 v9 v10) (hz : CronZ c) (hok : c.ok = false) :
    Calls Tryz.prog 14 #[cronV c v0 v1 v2 v4 v6 v8 v9 v10, .int .i64 t] w fun e w' => e = .returned (.tuple #[.int .i64 0, .iface 27 (.int .i64 1)]) ∧ Below w.heap.size w w' := by
  have CK : Hid (∀ w0, Below w.heap.size w w0 → Calls Tryz.prog 15 #[cronV c v0 v1 v2 v4 v6 v8 v9 v10] w0 fun e w' => e = .returned (.iface 27 (.int .i64 1)) ∧ Below w0.heap.size w0 w') := Lib.hid fun w0 hb => by
    have k := check_any c _ _ _ _ _ _ _ _ w0 (h.call hb) hz
    rw [hok] at k
    exact k
  obtain ⟨o0, p0, hv0, -, -⟩ := id h.mi
  obtain ⟨n0, hn0⟩ : ∃ n, c.mi.length = n := ⟨_, rfl⟩
  rw [hn0] at hv0
  subst hv0
  obtain ⟨o1, p1, hv1, -, -⟩ := id h.ho
  obtain ⟨n1, hn1⟩ : ∃ n, c.ho.length = n := ⟨_, rfl⟩
  rw [hn1] at hv1
  subst hv1
  obtain ⟨o2, p2, hv2, -, -⟩ := id h.mo
  obtain ⟨n2, hn2⟩ : ∃ n, c.mo.length = n := ⟨_, rfl⟩
  rw [hn2] at hv2
  subst hv2
  obtain ⟨o4, p4, hv4, -, -⟩ := id h.da
  obtain ⟨n4, hn4⟩ : ∃ n, c.da.length = n := ⟨_, rfl⟩
  rw [hn4] at hv4
  subst hv4
  obtain ⟨o6, p6, hv6, -, -⟩ := id h.ne
  obtain ⟨n6, hn6⟩ : ∃ n, c.ne.length = n := ⟨_, rfl⟩
  rw [hn6] at hv6
  subst hv6
  obtain ⟨o8, p8, hv8, -, -⟩ := id h.wd
  obtain ⟨n8, hn8⟩ : ∃ n, c.wd.length = n := ⟨_, rfl⟩
  rw [hn8] at hv8
  subst hv8
  obtain ⟨o9, p9, hv9, -, -⟩ := id h.lo
  obtain ⟨n9, hn9⟩ : ∃ n, c.lo.length = n := ⟨_, rfl⟩
  rw [hn9] at hv9
  subst hv9
  obtain ⟨o10, p10, hv10, -, -⟩ := id h.nt
  obtain ⟨n10, hn10⟩ : ∃ n, c.nt.length = n := ⟨_, rfl⟩
  rw [hn10] at hv10
  subst hv10
  obtain ⟨A, hA⟩ : ∃ x, c.any = x := ⟨_, rfl⟩
  obtain ⟨La, hLa⟩ : ∃ x, c.la = x := ⟨_, rfl⟩
  obtain ⟨Aw, hAw⟩ : ∃ x, c.aw = x := ⟨_, rfl⟩
  unfold cronV at CK ⊢
  rw [hA, hLa, hAw] at CK ⊢
  clear hA hLa hAw hn0 hn1 hn2 hn4 hn6 hn8 hn9 hn10 h hz hok
  have HB0 := Lib.hid ((Below.refl w.heap.size w).alloc (Nat.le_refl _) (.cells #[.slice o0 n0 p0, .slice o1 n1 p1, .slice o2 n2 p2, .bool A, .slice o4 n4 p4, .bool La, .slice o6 n6 p6, .bool Aw, .slice o8 n8 p8, .slice o9 n9 p9, .slice o10 n10 p10] 25))
  go_enter Tryz.func14, Tryz.ntmps14
  go_wp2_with (go_at_call 15; refine Calls.mono (by with_reducible exact CK.out _ HB0.out) ?_; rintro e w1 ⟨rfl, hb1⟩; have HB1 := Lib.hid (thenB HB0.out hb1); clear hb1)
  go_ret2
  exact ⟨rfl, HB1.out⟩
set_option maxHeartbeats 4000000 in
theorem cnext_off (c : Cron) (v0 v1 v2 v4 v6 v8 v9 v10 : Value) (t : Int) (w : World) (h : CronR w c v0 v1 v2 v4 v6 v8 v9 v10) (hz : CronZ c) (hok : c.ok = true) (ht : t < -345600000000 ∨ 345600086399 < t) :
    Calls Tryz.prog 14 #[cronV c v0 v1 v2 v4 v6 v8 v9 v10, .int .i64 t] w fun e w' => e = .returned (.tuple #[.int .i64 0, .iface 27 (.int .i64 4)]) ∧ Below w.heap.size w w' := by
  have CK : Hid (∀ w0, Below w.heap.size w w0 → Calls Tryz.prog 15 #[cronV c v0 v1 v2 v4 v6 v8 v9 v10] w0 fun e w' => e = .returned (.nilIface) ∧ Below w0.heap.size w0 w') := Lib.hid fun w0 hb => by
    have k := check_any c _ _ _ _ _ _ _ _ w0 (h.call hb) hz
    rw [hok] at k
    exact k
  have CS : Hid (∀ w0, Calls Tryz.prog 17 #[.int .i64 t] w0 fun e w' => e = .returned (.tuple #[.int .i64 0, .int .i64 0, .iface 27 (.int .i64 4)]) ∧ w0 = w') := Lib.hid fun w0 => by
    have k := split_all t w0
    rw [(loc_out ht).1, (loc_out ht).2.1, (loc_out ht).2.2] at k
    exact k
  obtain ⟨o0, p0, hv0, -, -⟩ := id h.mi
  obtain ⟨n0, hn0⟩ : ∃ n, c.mi.length = n := ⟨_, rfl⟩
  rw [hn0] at hv0
  subst hv0
  obtain ⟨o1, p1, hv1, -, -⟩ := id h.ho
  obtain ⟨n1, hn1⟩ : ∃ n, c.ho.length = n := ⟨_, rfl⟩
  rw [hn1] at hv1
  subst hv1
  obtain ⟨o2, p2, hv2, -, -⟩ := id h.mo
  obtain ⟨n2, hn2⟩ : ∃ n, c.mo.length = n := ⟨_, rfl⟩
  rw [hn2] at hv2
  subst hv2
  obtain ⟨o4, p4, hv4, -, -⟩ := id h.da
  obtain ⟨n4, hn4⟩ : ∃ n, c.da.length = n := ⟨_, rfl⟩
  rw [hn4] at hv4
  subst hv4
  obtain ⟨o6, p6, hv6, -, -⟩ := id h.ne
  obtain ⟨n6, hn6⟩ : ∃ n, c.ne.length = n := ⟨_, rfl⟩
  rw [hn6] at hv6
  subst hv6
  obtain ⟨o8, p8, hv8, -, -⟩ := id h.wd
  obtain ⟨n8, hn8⟩ : ∃ n, c.wd.length = n := ⟨_, rfl⟩
  rw [hn8] at hv8
  subst hv8
  obtain ⟨o9, p9, hv9, -, -⟩ := id h.lo
  obtain ⟨n9, hn9⟩ : ∃ n, c.lo.length = n := ⟨_, rfl⟩
  rw [hn9] at hv9
  subst hv9
  obtain ⟨o10, p10, hv10, -, -⟩ := id h.nt
  obtain ⟨n10, hn10⟩ : ∃ n, c.nt.length = n := ⟨_, rfl⟩
  rw [hn10] at hv10
  subst hv10
  obtain ⟨A, hA⟩ : ∃ x, c.any = x := ⟨_, rfl⟩
  obtain ⟨La, hLa⟩ : ∃ x, c.la = x := ⟨_, rfl⟩
  obtain ⟨Aw, hAw⟩ : ∃ x, c.aw = x := ⟨_, rfl⟩
  unfold cronV at CK ⊢
  rw [hA, hLa, hAw] at CK ⊢
  clear hA hLa hAw hn0 hn1 hn2 hn4 hn6 hn8 hn9 hn10 h hz hok ht
  have HB0 := Lib.hid ((Below.refl w.heap.size w).alloc (Nat.le_refl _) (.cells #[.slice o0 n0 p0, .slice o1 n1 p1, .slice o2 n2 p2, .bool A, .slice o4 n4 p4, .bool La, .slice o6 n6 p6, .bool Aw, .slice o8 n8 p8, .slice o9 n9 p9, .slice o10 n10 p10] 25))
  go_enter Tryz.func14, Tryz.ntmps14
  go_wp2_with (first
    | (go_at_call 15; refine Calls.mono (by with_reducible exact CK.out _ HB0.out) ?_; rintro e w1 ⟨rfl, hb1⟩; have HB1 := Lib.hid (thenB HB0.out hb1); clear hb1)
    | (go_at_call 17; (with_reducible refine (CS.out _).mono ?_); rintro e w2 ⟨rfl, rfl⟩))
  go_ret2
  exact ⟨rfl, HB1.out⟩
set_option maxRecDepth 100000 in
set_option maxHeartbeats 8000000 in
theorem cnext_ok (c : Cron) (v0 v1 v2 v4 v6 v8 v9 v10 : Value) (t : Int) (w : World) (hr : RomanT w) (h : CronR w c v0 v1 v2 v4 v6 v8 v9 v10) (hz : CronZ c) (hok : c.ok = true) (h1 : -345600000000 ≤ t) (h2 : t ≤ 345600086399) :
    Calls Tryz.prog 14 #[cronV c v0 v1 v2 v4 v6 v8 v9 v10, .int .i64 t] w fun e w' => ∃ v x, e = .returned (.tuple #[.int .i64 v, errV x]) ∧ NxR c t v x ∧ Below w.heap.size w w' := by
  have CK : Hid (∀ w0, Below w.heap.size w w0 → Calls Tryz.prog 15 #[cronV c v0 v1 v2 v4 v6 v8 v9 v10] w0 fun e w' => e = .returned (.nilIface) ∧ Below w0.heap.size w0 w') := Lib.hid fun w0 hb => by
    have k := check_any c _ _ _ _ _ _ _ _ w0 (h.call hb) hz
    rw [hok] at k
    exact k
  have HGd := Lib.hid (ok_good hok)
  obtain ⟨S, hS⟩ : ∃ S, t % 86400 = S := ⟨_, rfl⟩
  have HH : Hid (∀ r, NextP c t (t / 86400) (lastD (t / 86400)) (some r) → NxR c t r 0) := Lib.hid fun r hn => .hit r hok ⟨h1, h2⟩ hn
  have HNo : Hid (NextP c t (t / 86400) (lastD (t / 86400)) none → NxR c t 0 12) := Lib.hid fun hn => .none hok ⟨h1, h2⟩ hn
  obtain ⟨D, hD⟩ : ∃ D, t / 86400 = D := ⟨_, rfl⟩
  have CS : Hid (∀ w0, Calls Tryz.prog 17 #[.int .i64 t] w0 fun e w' => e = .returned (.tuple #[.int .i64 D, .int .i64 S, .nilIface]) ∧ w0 = w') := Lib.hid fun w0 => by
    have k := split_all t w0
    rw [(loc_in h1 h2).1, (loc_in h1 h2).2.1, (loc_in h1 h2).2.2, hD, hS] at k
    exact k
  have hD1 : -4000000 ≤ D := by omega
  have hD2 : D ≤ 4000000 := by omega
  rw [hD] at HH HNo
  have HE12 : Hid (errV 12 = .iface 27 (.int .i64 12)) := Lib.hid (errV_hit (by decide))
  have HE0 : Hid (errV 0 = .nilIface) := Lib.hid rfl
  have CF : Hid (∀ w0 n, Below w.heap.size w w0 → -4000000 ≤ n → n ≤ 4000000 → Calls Tryz.prog 19 #[cronV c v0 v1 v2 v4 v6 v8 v9 v10, .int .i64 n] w0 (FitS c n w0)) := Lib.hid fun w0 n hb n1 n2 => fits_any c _ _ _ _ _ _ _ _ n w0 (hr.call hb) (h.call hb) hz (ok_good hok) n1 n2
  have HPh := Lib.hid h.ho
  have HPm := Lib.hid h.mi
  have lho : c.ho.length ≤ 100 := short_of HGd.out.ho (by omega)
  have lmi : c.mi.length ≤ 100 := short_of HGd.out.mi (by omega)
  unfold FitS at CF
  clear hD hS h1 h2
  obtain ⟨o0, p0, hv0, -, -⟩ := id h.mi
  obtain ⟨n0, hn0⟩ : ∃ n, c.mi.length = n := ⟨_, rfl⟩
  rw [hn0] at hv0
  subst hv0
  obtain ⟨o1, p1, hv1, -, -⟩ := id h.ho
  obtain ⟨n1, hn1⟩ : ∃ n, c.ho.length = n := ⟨_, rfl⟩
  rw [hn1] at hv1
  subst hv1
  obtain ⟨o2, p2, hv2, -, -⟩ := id h.mo
  obtain ⟨n2, hn2⟩ : ∃ n, c.mo.length = n := ⟨_, rfl⟩
  rw [hn2] at hv2
  subst hv2
  obtain ⟨o4, p4, hv4, -, -⟩ := id h.da
  obtain ⟨n4, hn4⟩ : ∃ n, c.da.length = n := ⟨_, rfl⟩
  rw [hn4] at hv4
  subst hv4
  obtain ⟨o6, p6, hv6, -, -⟩ := id h.ne
  obtain ⟨n6, hn6⟩ : ∃ n, c.ne.length = n := ⟨_, rfl⟩
  rw [hn6] at hv6
  subst hv6
  obtain ⟨o8, p8, hv8, -, -⟩ := id h.wd
  obtain ⟨n8, hn8⟩ : ∃ n, c.wd.length = n := ⟨_, rfl⟩
  rw [hn8] at hv8
  subst hv8
  obtain ⟨o9, p9, hv9, -, -⟩ := id h.lo
  obtain ⟨n9, hn9⟩ : ∃ n, c.lo.length = n := ⟨_, rfl⟩
  rw [hn9] at hv9
  subst hv9
  obtain ⟨o10, p10, hv10, -, -⟩ := id h.nt
  obtain ⟨n10, hn10⟩ : ∃ n, c.nt.length = n := ⟨_, rfl⟩
  rw [hn10] at hv10
  subst hv10
  obtain ⟨A, hA⟩ : ∃ x, c.any = x := ⟨_, rfl⟩
  obtain ⟨La, hLa⟩ : ∃ x, c.la = x := ⟨_, rfl⟩
  obtain ⟨Aw, hAw⟩ : ∃ x, c.aw = x := ⟨_, rfl⟩
  rw [hn0] at lmi
  rw [hn1] at lho
  have HN0 := Lib.hid hn0
  have HN1 := Lib.hid hn1
  unfold cronV at CK CF ⊢
  rw [hA, hLa, hAw] at CK CF ⊢
  clear hA hLa hAw hn0 hn1 hn2 hn4 hn6 hn8 hn9 hn10 h hz hok hr
  obtain ⟨E, hE, hE1, hE2⟩ : ∃ E, lastD D = E ∧ D ≤ E ∧ E ≤ 4000000 := ⟨_, rfl, by unfold lastD; split <;> omega, by unfold lastD; split <;> omega⟩
  rw [hE] at HH HNo
  have hmin : (if (4000000 : Int) < D + 10957 then (4000000 : Int) else D + 10957) = E := hE
  clear hE
  obtain ⟨wB, hwB⟩ : ∃ x, w.alloc (.cells #[.slice o0 n0 p0, .slice o1 n1 p1, .slice o2 n2 p2, .bool A, .slice o4 n4 p4, .bool La, .slice o6 n6 p6, .bool Aw, .slice o8 n8 p8, .slice o9 n9 p9, .slice o10 n10 p10] 25) = x := ⟨_, rfl⟩
  have HBB : Hid (Below w.heap.size w wB) := Lib.hid (by rw [← hwB]; exact (Below.refl _ _).alloc (Nat.le_refl _) _)
  have hlt : w.heap.size < wB.heap.size := by rw [← hwB]; simp
  have HQ0 : Hid (wB.cell? ⟨w.heap.size, 0, none⟩ = some (.slice o0 n0 p0)) := Lib.hid (by rw [← hwB]; simp)
  have HQ1 : Hid (wB.cell? ⟨w.heap.size, 1, none⟩ = some (.slice o1 n1 p1)) := Lib.hid (by rw [← hwB]; simp)
  have HQ2 : Hid (wB.cell? ⟨w.heap.size, 2, none⟩ = some (.slice o2 n2 p2)) := Lib.hid (by rw [← hwB]; simp)
  have HQ3 : Hid (wB.cell? ⟨w.heap.size, 3, none⟩ = some (.bool A)) := Lib.hid (by rw [← hwB]; simp)
  have HQ4 : Hid (wB.cell? ⟨w.heap.size, 4, none⟩ = some (.slice o4 n4 p4)) := Lib.hid (by rw [← hwB]; simp)
  have HQ5 : Hid (wB.cell? ⟨w.heap.size, 5, none⟩ = some (.bool La)) := Lib.hid (by rw [← hwB]; simp)
  have HQ6 : Hid (wB.cell? ⟨w.heap.size, 6, none⟩ = some (.slice o6 n6 p6)) := Lib.hid (by rw [← hwB]; simp)
  have HQ7 : Hid (wB.cell? ⟨w.heap.size, 7, none⟩ = some (.bool Aw)) := Lib.hid (by rw [← hwB]; simp)
  have HQ8 : Hid (wB.cell? ⟨w.heap.size, 8, none⟩ = some (.slice o8 n8 p8)) := Lib.hid (by rw [← hwB]; simp)
  have HQ9 : Hid (wB.cell? ⟨w.heap.size, 9, none⟩ = some (.slice o9 n9 p9)) := Lib.hid (by rw [← hwB]; simp)
  have HQ10 : Hid (wB.cell? ⟨w.heap.size, 10, none⟩ = some (.slice o10 n10 p10)) := Lib.hid (by rw [← hwB]; simp)
  have HwB := Lib.hid hwB
  clear hwB
  have HB0 := Lib.hid ((Below.refl w.heap.size w).alloc (Nat.le_refl _) (.cells #[.slice o0 n0 p0, .slice o1 n1 p1, .slice o2 n2 p2, .bool A, .slice o4 n4 p4, .bool La, .slice o6 n6 p6, .bool Aw, .slice o8 n8 p8, .slice o9 n9 p9, .slice o10 n10 p10] 25))
  go_enter Tryz.func14, Tryz.ntmps14
  go_wp2_with (first
    | (go_at_call 15; refine Calls.mono (by with_reducible exact CK.out _ HB0.out) ?_; rintro e w1 ⟨rfl, hb1⟩; rw [HwB.out] at hb1; have HB1 := Lib.hid hb1; clear hb1)
    | (go_at_call 17; (with_reducible refine (CS.out _).mono ?_); rintro e w3 ⟨rfl, rfl⟩))
  go_loopw [10] (fun s wr => ∃ n : Int, s = .int .i64 n ∧ D ≤ n ∧ n ≤ E + 1 ∧ Hid (NoneYet c t D n) ∧ Hid (Below wB.heap.size wB wr)) (fun s _ => (4000001 - intOf s).toNat)
  case atStart => exact ⟨D, rfl, by omega, by omega, Lib.hid (fun n' x h1 h2 => by omega), HB1⟩
  case round =>
    obtain ⟨n, rfl, hn1, hn2, HY, HB⟩ := hrel
    obtain ⟨wL, rfl⟩ : ∃ wo : World, wo = wr := ⟨_, rfl⟩
    by_cases hne : n ≤ E
    · have hle : n ≤ E := hne
      have HN1a : -4000000 ≤ n := by omega
      have HN2a : n ≤ 4000000 := by omega
      have HW := Lib.hid (HBB.out.trans (HB.out.mono HBB.out.size))
      have hwl := Nat.lt_of_lt_of_le hlt HB.out.size
      have c0 := (HB.out.cell (p := ⟨w.heap.size, 0, none⟩) hlt).trans HQ0.out
      have c1 := (HB.out.cell (p := ⟨w.heap.size, 1, none⟩) hlt).trans HQ1.out
      have c2 := (HB.out.cell (p := ⟨w.heap.size, 2, none⟩) hlt).trans HQ2.out
      have c3 := (HB.out.cell (p := ⟨w.heap.size, 3, none⟩) hlt).trans HQ3.out
      have c4 := (HB.out.cell (p := ⟨w.heap.size, 4, none⟩) hlt).trans HQ4.out
      have c5 := (HB.out.cell (p := ⟨w.heap.size, 5, none⟩) hlt).trans HQ5.out
      have c6 := (HB.out.cell (p := ⟨w.heap.size, 6, none⟩) hlt).trans HQ6.out
      have c7 := (HB.out.cell (p := ⟨w.heap.size, 7, none⟩) hlt).trans HQ7.out
      have c8 := (HB.out.cell (p := ⟨w.heap.size, 8, none⟩) hlt).trans HQ8.out
      have c9 := (HB.out.cell (p := ⟨w.heap.size, 9, none⟩) hlt).trans HQ9.out
      have c10 := (HB.out.cell (p := ⟨w.heap.size, 10, none⟩) hlt).trans HQ10.out
      go_upto_if 41 with (go_at_call 19; (with_reducible refine (CF.out _ _ HW.out HN1a HN2a).mono ?_); rintro e w4 ⟨b, rfl, hF, hb4⟩; have HFb := Lib.hid hF; have HB4 := Lib.hid hb4; clear hF hb4)
      have HBn := Lib.hid (thenB HB.out HB4.out)
      have d0 := (HB4.out.cell (p := ⟨w.heap.size, 0, none⟩) hwl).trans c0
      have d1 := (HB4.out.cell (p := ⟨w.heap.size, 1, none⟩) hwl).trans c1
      clear c0 c1 c2 c3 c4 c5 c6 c7 c8 c9 c10
      cases b with
      | false =>
        have HY2 := Lib.hid (HY.out.skip HFb.out)
        go_wp2_with fail
        go_roundw
        case rel => exact ⟨n + 1, by go_num, by omega, by omega, HY2, HBn⟩
        case measure => simp [intOf]; omega
      | true =>
        have hw4 := Nat.lt_of_lt_of_le hwl HB4.out.size
        have HPh4 := Lib.hid (HPh.out.call (thenB HW.out HB4.out))
        have HPm4 := Lib.hid (HPm.out.call (thenB HW.out HB4.out))
        go_wp2_with fail
        go_loop [45] (fun s => ∃ i : Nat, s = .int .i64 (i : Int) ∧ i ≤ n1 ∧ Hid (NoneBefore c t n i 0)) (fun s => n1 - (intOf s).toNat)
        case atStart => exact ⟨0, rfl, by omega, Lib.hid fun i' j' h1 h2 h3 => by omega⟩
        case round =>
          obtain ⟨i, rfl, hi, HI⟩ := hrel
          by_cases hin : i < n1
          · have hil : i < c.ho.length := by rw [HN1.out]; exact hin
            obtain ⟨ad, rfl, hce⟩ := HPh4.out.at hil
            have hra := ris_at HGd.out.ho i hil
            unfold RisAt at hra
            have Hil := Lib.hid hil
            obtain ⟨H, hH⟩ : ∃ H, c.ho.getD i 0 = H := ⟨_, rfl⟩
            rw [hH] at hce hra
            obtain ⟨a1, a2, -⟩ := hra
            have HH' := Lib.hid hH
            clear hH hil
            go_wp2_with fail
            go_loop [52] (fun s => ∃ j : Nat, s = .int .i64 (j : Int) ∧ j ≤ n0 ∧ Hid (NoneBefore c t n i j)) (fun s => n0 - (intOf s).toNat)
            case atStart => exact ⟨0, rfl, by omega, HI⟩
            case round =>
              obtain ⟨j, rfl, hj, HJ⟩ := hrel
              by_cases hjn : j < n0
              · have hjl : j < c.mi.length := by rw [HN0.out]; exact hjn
                obtain ⟨ae, rfl, hcf⟩ := HPm4.out.at hjl
                have hrb := ris_at HGd.out.mi j hjl
                unfold RisAt at hrb
                have Hjl := Lib.hid hjl
                obtain ⟨M, hM⟩ : ∃ M, c.mi.getD j 0 = M := ⟨_, rfl⟩
                rw [hM] at hcf hrb
                obtain ⟨b1, b2, -⟩ := hrb
                have HM' := Lib.hid hM
                clear hM hjl
                by_cases ht : t < (n * 24 * 60 + H * 60 + M) * 60
                · have HT : Hid (t < (n * 1440 + (c.ho.getD i 0 * 60 + c.mi.getD j 0)) * 60) := Lib.hid (by rw [HH'.out, HM'.out]; omega)
                  have HR : Hid (NxR c t ((n * 24 * 60 + H * 60 + M) * 60) 0) := Lib.hid (by
                    have k := HH.out _ (next_found HGd.out HY.out hn1 hle HJ.out Hil.out Hjl.out HFb.out HT.out)
                    rw [HH'.out, HM'.out] at k
                    have e : (n * 1440 + (H * 60 + M)) * 60 = (n * 24 * 60 + H * 60 + M) * 60 := by omega
                    rwa [e] at k)
                  go_wp2_with fail
                  go_ret2
                  exact ⟨_, 0, rfl, HR.out, HBB.out.trans (HBn.out.mono HBB.out.size)⟩
                · have hd : decide (t < (n * 24 * 60 + H * 60 + M) * 60) = false := decide_eq_false ht
                  have HJ2 := Lib.hid (HJ.out.step (by rw [HH'.out, HM'.out]; omega))
                  go_wp2_with fail
                  go_round
                  case rel => exact ⟨j + 1, by go_num, by omega, HJ2⟩
                  case measure => simp [intOf]; omega
              · obtain rfl : j = n0 := by omega
                have HI2 : Hid (NoneBefore c t n (i + 1) 0) := Lib.hid (NoneBefore.next (by rw [HN0.out]; exact HJ.out))
                go_wp2_with fail
                go_round
                case rel => first | exact ⟨i + 1, by go_num, by omega, HI2⟩ | ((repeat apply Exists.intro); exact ⟨⟨i + 1, by go_num, by omega, HI2⟩, rfl⟩) | ((repeat apply Exists.intro); refine ⟨⟨i + 1, by go_num, by omega, HI2⟩, ?_⟩; simp; exact ⟨rfl, rfl, rfl, rfl, rfl⟩)
                case measure => simp [intOf]; omega
          · obtain rfl : i = n1 := by omega
            have HY2 : Hid (NoneYet c t D (n + 1)) := Lib.hid (NoneBefore.all HY.out (by rw [HN1.out]; exact HI.out))
            go_wp2_with fail
            go_roundw
            case rel => exact ⟨n + 1, by go_num, by omega, by omega, HY2, HBn⟩
            case measure => simp [intOf]; omega
    · have hne' : decide (n ≤ E) = false := decide_eq_false hne
      have HR : Hid (NxR c t 0 12) := Lib.hid (HNo.out (next_none (by
        have e : n = E + 1 := by omega
        rw [← e]
        exact HY.out)))
      go_wp2_with fail
      go_ret2
      exact ⟨0, 12, by rw [HE12.out]; rfl, HR.out, HBB.out.trans (HB.out.mono HBB.out.size)⟩
end Go.Proofs.YtdnbnpknmdcljaaGreatDoor
