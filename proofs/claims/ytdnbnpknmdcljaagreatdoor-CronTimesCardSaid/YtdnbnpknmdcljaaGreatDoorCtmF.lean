/- cron.Fits. -/
import Derived.Test.YtdnbnpknmdcljaaGreatDoorCtmE
import Derived.Test.YtdnbnpknmdcljaaGreatDoorCrnE
namespace Go.Proofs.YtdnbnpknmdcljaaGreatDoor
open Go.RowKit
/-- What Fits answers. -/
inductive FtR (c : Cron) (t : Int) : Bool → Int → Prop
  | bad (h : c.ok = false) : FtR c t false 1
  | off (h : c.ok = true) (h2 : t < -345600000000 ∨ 345600086399 < t) : FtR c t false 4
  | ok (f : Bool) (h : c.ok = true) (h2 : -345600000000 ≤ t ∧ t ≤ 345600086399) (hf : (decide (t % 86400 / 60 % 60 ∈ c.mi) && decide (t % 86400 / 3600 ∈ c.ho)) = true → FitP c (t / 86400) f) : FtR c t (decide (t % 86400 / 60 % 60 ∈ c.mi) && decide (t % 86400 / 3600 ∈ c.ho) && f) 0
theorem FtR.one {c : Cron} {t : Int} {b b' : Bool} {x x' : Int} (h : FtR c t b x) (h' : FtR c t b' x') : b = b' ∧ x = x' := by
  cases h with
  | bad h => cases h' with
    | bad _ => exact ⟨rfl, rfl⟩
    | off h1 _ => rw [h] at h1; cases h1
    | ok _ h1 _ _ => rw [h] at h1; cases h1
  | off h h2 => cases h' with
    | bad h1 => rw [h] at h1; cases h1
    | off _ _ => exact ⟨rfl, rfl⟩
    | ok _ _ h3 _ => omega
  | ok f h h2 hf => cases h' with
    | bad h1 => rw [h] at h1; cases h1
    | off _ h3 => omega
    | ok f' _ _ hf' =>
      refine ⟨?_, rfl⟩
      revert hf hf'
      generalize (decide (t % 86400 / 60 % 60 ∈ c.mi) && decide (t % 86400 / 3600 ∈ c.ho)) = g
      intro hf hf'
      cases g with
      | false => rfl
      | true => rw [(hf rfl).one (hf' rfl)]
set_option maxHeartbeats 4000000 in
theorem cfits_bad (c : Cron) (v0 v1 v2 v4 v6 v8 v9 v10 : Value) (t : Int) (w : World) (h : CronR w c v0 v1 v2 v4 v6 v8 v9 v10) (hz : CronZ c) (hok : c.ok = false) :
    Calls Tryz.prog 8 #[cronV c v0 v1 v2 v4 v6 v8 v9 v10, .int .i64 t] w fun e w' => e = .returned (.tuple #[.bool false, .iface 27 (.int .i64 1)]) ∧ Below w.heap.size w w' := by
  have CK : Hid (∀ w0, Below w.heap.size w w0 → Calls Tryz.prog 15 #[cronV c v0 v1 v2 v4 v6 v8 v9 v10] w0 fun e w' => e = .returned (.iface 27 (.int .i64 1)) ∧ Below w0.heap.size w0 w') := Lib.hid fun w0 hb => by
    have k := check_any c _ _ _ _ _ _ _ _ w0 (h.call hb) hz
    rw [hok] at k
    exact k
  obtain ⟨o0, p0, hv0, -, -⟩ := id h.mi
  obtain ⟨n0, hn0⟩ : ∃ n, c.mi.length = n := ⟨_, rfl⟩
  rw [hn0] at hv0
  subst hv0
  obtain ⟨o1, p1, hv1, -, -⟩ := id h.ho
  obtain ⟨n1, hn1⟩ : ∃ n, c.ho.length = n := ⟨_, rfl⟩
  rw [hn1] at hv1
  subst hv1
  obtain ⟨o2, p2, hv2, -, -⟩ := id h.mo
  obtain ⟨n2, hn2⟩ : ∃ n, c.mo.length = n := ⟨_, rfl⟩
  rw [hn2] at hv2
  subst hv2
  obtain ⟨o4, p4, hv4, -, -⟩ := id h.da
  obtain ⟨n4, hn4⟩ : ∃ n, c.da.length = n := ⟨_, rfl⟩
  rw [hn4] at hv4
  subst hv4
  obtain ⟨o6, p6, hv6, -, -⟩ := id h.ne
  obtain ⟨n6, hn6⟩ : ∃ n, c.ne.length = n := ⟨_, rfl⟩
  rw [hn6] at hv6
  subst hv6
  obtain ⟨o8, p8, hv8, -, -⟩ := id h.wd
  obtain ⟨n8, hn8⟩ : ∃ n, c.wd.length = n := ⟨_, rfl⟩
  rw [hn8] at hv8
  subst hv8
  obtain ⟨o9, p9, hv9, -, -⟩ := id h.lo
  obtain ⟨n9, hn9⟩ : ∃ n, c.lo.length = n := ⟨_, rfl⟩
  rw [hn9] at hv9
  subst hv9
  obtain ⟨o10, p10, hv10, -, -⟩ := id h.nt
  obtain ⟨n10, hn10⟩ : ∃ n, c.nt.length = n := ⟨_, rfl⟩
  rw [hn10] at hv10
  subst hv10
  obtain ⟨A, hA⟩ : ∃ x, c.any = x := ⟨_, rfl⟩
  obtain ⟨La, hLa⟩ : ∃ x, c.la = x := ⟨_, rfl⟩
  obtain ⟨Aw, hAw⟩ : ∃ x, c.aw = x := ⟨_, rfl⟩
  unfold cronV at CK ⊢
  rw [hA, hLa, hAw] at CK ⊢
  clear hA hLa hAw hn0 hn1 hn2 hn4 hn6 hn8 hn9 hn10 h hz hok
  have HB0 := Lib.hid ((Below.refl w.heap.size w).alloc (Nat.le_refl _) (.cells #[.slice o0 n0 p0, .slice o1 n1 p1, .slice o2 n2 p2, .bool A, .slice o4 n4 p4, .bool La, .slice o6 n6 p6, .bool Aw, .slice o8 n8 p8, .slice o9 n9 p9, .slice o10 n10 p10] 25))
  go_enter Tryz.func8, Tryz.ntmps8
  go_wp2_with (go_at_call 15; refine Calls.mono (by with_reducible exact CK.out _ HB0.out) ?_; rintro e w1 ⟨rfl, hb1⟩; have HB1 := Lib.hid (thenB HB0.out hb1); clear hb1)
  go_ret2
  exact ⟨rfl, HB1.out⟩
set_option maxHeartbeats 4000000 in
theorem cfits_off (c : Cron) (v0 v1 v2 v4 v6 v8 v9 v10 : Value) (t : Int) (w : World) (hr : RomanT w) (h : CronR w c v0 v1 v2 v4 v6 v8 v9 v10) (hz : CronZ c) (hok : c.ok = true) (ht : t < -345600000000 ∨ 345600086399 < t) :
    Calls Tryz.prog 8 #[cronV c v0 v1 v2 v4 v6 v8 v9 v10, .int .i64 t] w fun e w' => e = .returned (.tuple #[.bool false, .iface 27 (.int .i64 4)]) ∧ Below w.heap.size w w' := by
  have CK : Hid (∀ w0, Below w.heap.size w w0 → Calls Tryz.prog 15 #[cronV c v0 v1 v2 v4 v6 v8 v9 v10] w0 fun e w' => e = .returned (.nilIface) ∧ Below w0.heap.size w0 w') := Lib.hid fun w0 hb => by
    have k := check_any c _ _ _ _ _ _ _ _ w0 (h.call hb) hz
    rw [hok] at k
    exact k
  have CT : Hid (∀ w0, Below w.heap.size w w0 → Calls Tryz.prog 16 #[.int .i64 t] w0 fun e w' => ∃ a y m d x k s, e = .returned (.tuple #[.agg #[.int .i64 a, .int .i64 y, .int .i64 m, .int .i64 d], .agg #[.int .i64 x, .int .i64 k, .int .i64 s], .iface 27 (.int .i64 4)]) ∧ Below w0.heap.size w0 w') := Lib.hid fun w0 hb => (ctell_all t w0 (hr.call hb)).mono fun e w' ⟨a, y, m, d, x, k, s, he, _, hb'⟩ => ⟨a, y, m, d, x, k, s, by rw [he, (loc_out ht).1]; rfl, hb'⟩
  obtain ⟨o0, p0, hv0, -, -⟩ := id h.mi
  obtain ⟨n0, hn0⟩ : ∃ n, c.mi.length = n := ⟨_, rfl⟩
  rw [hn0] at hv0
  subst hv0
  obtain ⟨o1, p1, hv1, -, -⟩ := id h.ho
  obtain ⟨n1, hn1⟩ : ∃ n, c.ho.length = n := ⟨_, rfl⟩
  rw [hn1] at hv1
  subst hv1
  obtain ⟨o2, p2, hv2, -, -⟩ := id h.mo
  obtain ⟨n2, hn2⟩ : ∃ n, c.mo.length = n := ⟨_, rfl⟩
  rw [hn2] at hv2
  subst hv2
  obtain ⟨o4, p4, hv4, -, -⟩ := id h.da
  obtain ⟨n4, hn4⟩ : ∃ n, c.da.length = n := ⟨_, rfl⟩
  rw [hn4] at hv4
  subst hv4
  obtain ⟨o6, p6, hv6, -, -⟩ := id h.ne
  obtain ⟨n6, hn6⟩ : ∃ n, c.ne.length = n := ⟨_, rfl⟩
  rw [hn6] at hv6
  subst hv6
  obtain ⟨o8, p8, hv8, -, -⟩ := id h.wd
  obtain ⟨n8, hn8⟩ : ∃ n, c.wd.length = n := ⟨_, rfl⟩
  rw [hn8] at hv8
  subst hv8
  obtain ⟨o9, p9, hv9, -, -⟩ := id h.lo
  obtain ⟨n9, hn9⟩ : ∃ n, c.lo.length = n := ⟨_, rfl⟩
  rw [hn9] at hv9
  subst hv9
  obtain ⟨o10, p10, hv10, -, -⟩ := id h.nt
  obtain ⟨n10, hn10⟩ : ∃ n, c.nt.length = n := ⟨_, rfl⟩
  rw [hn10] at hv10
  subst hv10
  obtain ⟨A, hA⟩ : ∃ x, c.any = x := ⟨_, rfl⟩
  obtain ⟨La, hLa⟩ : ∃ x, c.la = x := ⟨_, rfl⟩
  obtain ⟨Aw, hAw⟩ : ∃ x, c.aw = x := ⟨_, rfl⟩
  unfold cronV at CK ⊢
  rw [hA, hLa, hAw] at CK ⊢
  clear hA hLa hAw hn0 hn1 hn2 hn4 hn6 hn8 hn9 hn10 h hz hok hr ht
  have HB0 := Lib.hid ((Below.refl w.heap.size w).alloc (Nat.le_refl _) (.cells #[.slice o0 n0 p0, .slice o1 n1 p1, .slice o2 n2 p2, .bool A, .slice o4 n4 p4, .bool La, .slice o6 n6 p6, .bool Aw, .slice o8 n8 p8, .slice o9 n9 p9, .slice o10 n10 p10] 25))
  go_enter Tryz.func8, Tryz.ntmps8
  go_wp2_with (first
    | (go_at_call 15; refine Calls.mono (by with_reducible exact CK.out _ HB0.out) ?_; rintro e w1 ⟨rfl, hb1⟩; have HB1 := Lib.hid (thenB HB0.out hb1); clear hb1)
    | (go_at_call 16; (with_reducible refine (CT.out _ HB1.out).mono ?_); rintro e w2 ⟨a, y, m, d, x, k, s, rfl, hb2⟩; have HB2 := Lib.hid (thenB HB1.out hb2); clear hb2))
  go_ret2
  exact ⟨rfl, (HB2.out.alloc HB2.out.size _).alloc (by have := HB2.out.size; simp; omega) _⟩
set_option maxRecDepth 100000 in
set_option maxHeartbeats 8000000 in
theorem cfits_ok (c : Cron) (v0 v1 v2 v4 v6 v8 v9 v10 : Value) (t : Int) (w : World) (hr : RomanT w) (h : CronR w c v0 v1 v2 v4 v6 v8 v9 v10) (hz : CronZ c) (hok : c.ok = true) (h1 : -345600000000 ≤ t) (h2 : t ≤ 345600086399) :
    Calls Tryz.prog 8 #[cronV c v0 v1 v2 v4 v6 v8 v9 v10, .int .i64 t] w fun e w' => ∃ b, e = .returned (.tuple #[.bool b, .nilIface]) ∧ FtR c t b 0 ∧ Below w.heap.size w w' := by
  have CK : Hid (∀ w0, Below w.heap.size w w0 → Calls Tryz.prog 15 #[cronV c v0 v1 v2 v4 v6 v8 v9 v10] w0 fun e w' => e = .returned (.nilIface) ∧ Below w0.heap.size w0 w') := Lib.hid fun w0 hb => by
    have k := check_any c _ _ _ _ _ _ _ _ w0 (h.call hb) hz
    rw [hok] at k
    exact k
  obtain ⟨D, hD⟩ : ∃ D, t / 86400 = D := ⟨_, rfl⟩
  obtain ⟨S, hS⟩ : ∃ S, t % 86400 = S := ⟨_, rfl⟩
  obtain ⟨X, hX⟩ : ∃ X, t % 86400 / 3600 = X := ⟨_, rfl⟩
  obtain ⟨M, hM⟩ : ∃ M, t % 86400 / 60 % 60 = M := ⟨_, rfl⟩
  have CT : Hid (∀ w0, Below w.heap.size w w0 → Calls Tryz.prog 16 #[.int .i64 t] w0 fun e w' => ∃ a y m d s, e = .returned (.tuple #[.agg #[.int .i64 a, .int .i64 y, .int .i64 m, .int .i64 d], .agg #[.int .i64 X, .int .i64 M, .int .i64 s], .nilIface]) ∧ Below w0.heap.size w0 w') := Lib.hid fun w0 hb => (ctell_all t w0 (hr.call hb)).mono fun e w' ⟨a, y, m, d, x, k, s, he, hR, hb'⟩ => by
    rcases hR with ⟨e1, _⟩ | ⟨_, _, _, rfl, rfl, _⟩
    · omega
    · exact ⟨a, y, m, d, s, by rw [he, (loc_in h1 h2).1, ← hX, ← hM]; rfl, hb'⟩
  have CS : Hid (∀ w0, Calls Tryz.prog 17 #[.int .i64 t] w0 fun e w' => e = .returned (.tuple #[.int .i64 D, .int .i64 S, .nilIface]) ∧ w0 = w') := Lib.hid fun w0 => by
    have k := split_all t w0
    rw [(loc_in h1 h2).1, (loc_in h1 h2).2.1, (loc_in h1 h2).2.2, hD, hS] at k
    exact k
  obtain ⟨B0, hB0⟩ : ∃ B, decide (M ∈ c.mi) = B := ⟨_, rfl⟩
  obtain ⟨B1, hB1⟩ : ∃ B, decide (X ∈ c.ho) = B := ⟨_, rfl⟩
  have C0 : Hid (∀ w0, Below w.heap.size w w0 → Calls Tryz.prog 18 #[v0, .int .i64 M] w0 fun e w' => e = .returned (.bool B0) ∧ w' = w0) := Lib.hid fun w0 hb => hB0 ▸ contains_any v0 c.mi M w0 (h.call hb).mi hz.mi
  have C1 : Hid (∀ w0, Below w.heap.size w w0 → Calls Tryz.prog 18 #[v1, .int .i64 X] w0 fun e w' => e = .returned (.bool B1) ∧ w' = w0) := Lib.hid fun w0 hb => hB1 ▸ contains_any v1 c.ho X w0 (h.call hb).ho hz.ho
  have CF : Hid (∀ w0, Below w.heap.size w w0 → Calls Tryz.prog 19 #[cronV c v0 v1 v2 v4 v6 v8 v9 v10, .int .i64 D] w0 (FitS c D w0)) := Lib.hid fun w0 hb => fits_any c _ _ _ _ _ _ _ _ D w0 (hr.call hb) (h.call hb) hz (ok_good hok) (by omega) (by omega)
  have HG : Hid (∀ f, ((B0 && B1) = true → FitP c D f) → FtR c t (B0 && B1 && f) 0) := Lib.hid fun f hf => by
    have := FtR.ok (c := c) (t := t) f hok ⟨h1, h2⟩ (by rw [hD, hM, hX, hB0, hB1]; exact hf)
    rw [hM, hX, hB0, hB1] at this
    exact this
  have HF : Hid (∀ f, FitP c D f → FtR c t (B0 && B1 && f) 0) := Lib.hid fun f hf => HG.out f fun _ => hf
  have HE : Hid ((B0 && B1) = false → FtR c t false 0) := Lib.hid fun hb => by
    have k := HG.out false (fun h => by rw [hb] at h; cases h)
    rw [Bool.and_false] at k
    exact k
  clear HG
  unfold FitS at CF
  obtain ⟨FP, hFP⟩ : ∃ x, FitP c D = x := ⟨_, rfl⟩
  obtain ⟨FT, hFT⟩ : ∃ x, FtR c t = x := ⟨_, rfl⟩
  rw [hFP] at CF HF
  rw [hFT] at HF HE ⊢
  clear hX hM hD hS hB0 hB1 h1 h2 hFP hFT
  obtain ⟨o0, p0, hv0, -, -⟩ := id h.mi
  obtain ⟨n0, hn0⟩ : ∃ n, c.mi.length = n := ⟨_, rfl⟩
  rw [hn0] at hv0
  subst hv0
  obtain ⟨o1, p1, hv1, -, -⟩ := id h.ho
  obtain ⟨n1, hn1⟩ : ∃ n, c.ho.length = n := ⟨_, rfl⟩
  rw [hn1] at hv1
  subst hv1
  obtain ⟨o2, p2, hv2, -, -⟩ := id h.mo
  obtain ⟨n2, hn2⟩ : ∃ n, c.mo.length = n := ⟨_, rfl⟩
  rw [hn2] at hv2
  subst hv2
  obtain ⟨o4, p4, hv4, -, -⟩ := id h.da
  obtain ⟨n4, hn4⟩ : ∃ n, c.da.length = n := ⟨_, rfl⟩
  rw [hn4] at hv4
  subst hv4
  obtain ⟨o6, p6, hv6, -, -⟩ := id h.ne
  obtain ⟨n6, hn6⟩ : ∃ n, c.ne.length = n := ⟨_, rfl⟩
  rw [hn6] at hv6
  subst hv6
  obtain ⟨o8, p8, hv8, -, -⟩ := id h.wd
  obtain ⟨n8, hn8⟩ : ∃ n, c.wd.length = n := ⟨_, rfl⟩
  rw [hn8] at hv8
  subst hv8
  obtain ⟨o9, p9, hv9, -, -⟩ := id h.lo
  obtain ⟨n9, hn9⟩ : ∃ n, c.lo.length = n := ⟨_, rfl⟩
  rw [hn9] at hv9
  subst hv9
  obtain ⟨o10, p10, hv10, -, -⟩ := id h.nt
  obtain ⟨n10, hn10⟩ : ∃ n, c.nt.length = n := ⟨_, rfl⟩
  rw [hn10] at hv10
  subst hv10
  obtain ⟨A, hA⟩ : ∃ x, c.any = x := ⟨_, rfl⟩
  obtain ⟨La, hLa⟩ : ∃ x, c.la = x := ⟨_, rfl⟩
  obtain ⟨Aw, hAw⟩ : ∃ x, c.aw = x := ⟨_, rfl⟩
  unfold cronV at CK CF ⊢
  rw [hA, hLa, hAw] at CK CF ⊢
  clear hA hLa hAw hn0 hn1 hn2 hn4 hn6 hn8 hn9 hn10 h hz hok hr
  obtain ⟨wB, hwB⟩ : ∃ x, w.alloc (.cells #[.slice o0 n0 p0, .slice o1 n1 p1, .slice o2 n2 p2, .bool A, .slice o4 n4 p4, .bool La, .slice o6 n6 p6, .bool Aw, .slice o8 n8 p8, .slice o9 n9 p9, .slice o10 n10 p10] 25) = x := ⟨_, rfl⟩
  have HBB : Hid (Below w.heap.size w wB) := Lib.hid (by rw [← hwB]; exact (Below.refl _ _).alloc (Nat.le_refl _) _)
  have hlt : w.heap.size < wB.heap.size := by rw [← hwB]; simp
  have HQ0 : Hid (wB.cell? ⟨w.heap.size, 0, none⟩ = some (.slice o0 n0 p0)) := Lib.hid (by rw [← hwB]; simp)
  have HQ1 : Hid (wB.cell? ⟨w.heap.size, 1, none⟩ = some (.slice o1 n1 p1)) := Lib.hid (by rw [← hwB]; simp)
  have HQ2 : Hid (wB.cell? ⟨w.heap.size, 2, none⟩ = some (.slice o2 n2 p2)) := Lib.hid (by rw [← hwB]; simp)
  have HQ3 : Hid (wB.cell? ⟨w.heap.size, 3, none⟩ = some (.bool A)) := Lib.hid (by rw [← hwB]; simp)
  have HQ4 : Hid (wB.cell? ⟨w.heap.size, 4, none⟩ = some (.slice o4 n4 p4)) := Lib.hid (by rw [← hwB]; simp)
  have HQ5 : Hid (wB.cell? ⟨w.heap.size, 5, none⟩ = some (.bool La)) := Lib.hid (by rw [← hwB]; simp)
  have HQ6 : Hid (wB.cell? ⟨w.heap.size, 6, none⟩ = some (.slice o6 n6 p6)) := Lib.hid (by rw [← hwB]; simp)
  have HQ7 : Hid (wB.cell? ⟨w.heap.size, 7, none⟩ = some (.bool Aw)) := Lib.hid (by rw [← hwB]; simp)
  have HQ8 : Hid (wB.cell? ⟨w.heap.size, 8, none⟩ = some (.slice o8 n8 p8)) := Lib.hid (by rw [← hwB]; simp)
  have HQ9 : Hid (wB.cell? ⟨w.heap.size, 9, none⟩ = some (.slice o9 n9 p9)) := Lib.hid (by rw [← hwB]; simp)
  have HQ10 : Hid (wB.cell? ⟨w.heap.size, 10, none⟩ = some (.slice o10 n10 p10)) := Lib.hid (by rw [← hwB]; simp)
  have HwB := Lib.hid hwB
  clear hwB
  have HB0 := Lib.hid ((Below.refl w.heap.size w).alloc (Nat.le_refl _) (.cells #[.slice o0 n0 p0, .slice o1 n1 p1, .slice o2 n2 p2, .bool A, .slice o4 n4 p4, .bool La, .slice o6 n6 p6, .bool Aw, .slice o8 n8 p8, .slice o9 n9 p9, .slice o10 n10 p10] 25))
  go_enter Tryz.func8, Tryz.ntmps8
  go_upto_region 8 with (first
    | (go_at_call 15; refine Calls.mono (by with_reducible exact CK.out _ HB0.out) ?_; rintro e w1 ⟨rfl, hb1⟩; rw [HwB.out] at hb1; have HB1 := Lib.hid hb1; clear hb1)
    | (go_at_call 16; (with_reducible refine (CT.out _ (HBB.out.trans (HB1.out.mono HBB.out.size))).mono ?_); rintro e w2 ⟨a, y, m, d, s, rfl, hb2⟩; have HB2 := Lib.hid (thenB HB1.out hb2); clear hb2)
    | (go_at_call 17; (with_reducible refine (CS.out _).mono ?_); rintro e w3 ⟨rfl, rfl⟩))
  obtain ⟨wA, hwA⟩ : ∃ x, (w2.alloc (.cells #[.int .i64 a, .int .i64 y, .int .i64 m, .int .i64 d] 48)).alloc (.cells #[.int .i64 X, .int .i64 M, .int .i64 s] 50) = x := ⟨_, rfl⟩
  have HA : Hid (Below wB.heap.size wB wA) := Lib.hid (by rw [← hwA]; exact (HB2.out.alloc HB2.out.size _).alloc (by have := HB2.out.size; simp; omega) _)
  have d0 : wA.cell? ⟨w2.heap.size + 1, 0, none⟩ = some (.int .i64 X) := by rw [← hwA, World.cell?_alloc_at _ _ _ _ (by simp)]; simp
  have d1 : wA.cell? ⟨w2.heap.size + 1, 1, none⟩ = some (.int .i64 M) := by rw [← hwA, World.cell?_alloc_at _ _ _ _ (by simp)]; simp
  rw [hwA]
  have HWA := Lib.hid (HBB.out.trans (HA.out.mono HBB.out.size))
  have c0 := (HA.out.cell (p := ⟨w.heap.size, 0, none⟩) hlt).trans HQ0.out
  have c1 := (HA.out.cell (p := ⟨w.heap.size, 1, none⟩) hlt).trans HQ1.out
  have c2 := (HA.out.cell (p := ⟨w.heap.size, 2, none⟩) hlt).trans HQ2.out
  have c3 := (HA.out.cell (p := ⟨w.heap.size, 3, none⟩) hlt).trans HQ3.out
  have c4 := (HA.out.cell (p := ⟨w.heap.size, 4, none⟩) hlt).trans HQ4.out
  have c5 := (HA.out.cell (p := ⟨w.heap.size, 5, none⟩) hlt).trans HQ5.out
  have c6 := (HA.out.cell (p := ⟨w.heap.size, 6, none⟩) hlt).trans HQ6.out
  have c7 := (HA.out.cell (p := ⟨w.heap.size, 7, none⟩) hlt).trans HQ7.out
  have c8 := (HA.out.cell (p := ⟨w.heap.size, 8, none⟩) hlt).trans HQ8.out
  have c9 := (HA.out.cell (p := ⟨w.heap.size, 9, none⟩) hlt).trans HQ9.out
  have c10 := (HA.out.cell (p := ⟨w.heap.size, 10, none⟩) hlt).trans HQ10.out
  clear hwA
  cases B0 with
  | false =>
    go_wp2_with (go_at_call 18; (with_reducible refine (C0.out _ HWA.out).mono ?_); rintro e w4 ⟨rfl, rfl⟩)
    go_ret2
    exact ⟨false, rfl, HE.out rfl, HWA.out⟩
  | true =>
    cases B1 with
    | false =>
      go_wp2_with (first
        | (go_at_call 18; (with_reducible refine (C0.out _ HWA.out).mono ?_); rintro e w4 ⟨rfl, rfl⟩)
        | (go_at_call 18; (with_reducible refine (C1.out _ HWA.out).mono ?_); rintro e w4 ⟨rfl, rfl⟩))
      go_ret2
      exact ⟨false, rfl, HE.out rfl, HWA.out⟩
    | true =>
      go_wp2_with (first
        | (go_at_call 18; (with_reducible refine (C0.out _ HWA.out).mono ?_); rintro e w4 ⟨rfl, rfl⟩)
        | (go_at_call 18; (with_reducible refine (C1.out _ HWA.out).mono ?_); rintro e w4 ⟨rfl, rfl⟩)
        | (go_at_call 19; (with_reducible refine (CF.out _ HWA.out).mono ?_); rintro e w5 ⟨b, rfl, hF, hb5⟩; have HFb := Lib.hid (HF.out b hF); have HB5 := Lib.hid (thenB HWA.out hb5); clear hF hb5))
      go_ret2
      exact ⟨b, rfl, HFb.out, HB5.out⟩
end Go.Proofs.YtdnbnpknmdcljaaGreatDoor
