/- The law CronTimes. -/
import Derived.Test.YtdnbnpknmdcljaaGreatDoorCtmJ
namespace Go.Proofs.YtdnbnpknmdcljaaGreatDoor
open Go.RowKit
theorem rfits_all (c : Cron) (v0 v1 v2 v4 v6 v8 v9 v10 : Value) (t : Int) (w : World) (hi : InI t) (h : CronR w c v0 v1 v2 v4 v6 v8 v9 v10) (hz : CronZ c) :
    Calls Tryz.prog 5 #[cronV c v0 v1 v2 v4 v6 v8 v9 v10, .int .i64 t] w fun e w' => ∃ v x, e = .returned (.tuple #[.bool v, .int .i64 x]) ∧ FtR c t v x ∧ Below w.heap.size w w' := by
  rcases hok : c.ok with _ | _
  · exact (rfits_bad c _ _ _ _ _ _ _ _ t w h hz hok).mono fun e w' ⟨h1, h2⟩ => ⟨false, 1, h1, .bad hok, h2⟩
  · rcases loc_ways t with ht | ⟨h1, h2⟩
    · exact (rfits_off c _ _ _ _ _ _ _ _ t w hi h hz hok ht).mono fun e w' ⟨h1, h2⟩ => ⟨false, 4, h1, .off hok ht, h2⟩
    · exact (rfits_ok c _ _ _ _ _ _ _ _ t w hi h hz hok h1 h2).mono fun e w' ⟨b, h1, h2, h3⟩ => ⟨b, 0, h1, h2, h3⟩
theorem rnext_all (c : Cron) (v0 v1 v2 v4 v6 v8 v9 v10 : Value) (t : Int) (w : World) (hi : InI t) (h : CronR w c v0 v1 v2 v4 v6 v8 v9 v10) (hz : CronZ c) :
    Calls Tryz.prog 7 #[cronV c v0 v1 v2 v4 v6 v8 v9 v10, .int .i64 t] w fun e w' => ∃ v x, e = .returned (.tuple #[.int .i64 v, .int .i64 x]) ∧ NxR c t v x ∧ Below w.heap.size w w' := by
  rcases hok : c.ok with _ | _
  · exact (rnext_bad c _ _ _ _ _ _ _ _ t w h hz hok).mono fun e w' ⟨h1, h2⟩ => ⟨0, 1, h1, .bad hok, h2⟩
  · rcases loc_ways t with ht | ⟨h1, h2⟩
    · exact (rnext_off c _ _ _ _ _ _ _ _ t w hi h hz hok ht).mono fun e w' ⟨h1, h2⟩ => ⟨0, 4, h1, .off hok ht, h2⟩
    · exact (rnext_ok c _ _ _ _ _ _ _ _ t w hi h hz hok h1 h2).mono fun e w' ⟨v, x, h1, h2, h3⟩ => ⟨v, x, h1, h2, h3⟩
set_option maxRecDepth 100000 in
set_option maxHeartbeats 4000000 in
theorem cronTimes_walk (c : Cron) (v0 v1 v2 v4 v6 v8 v9 v10 : Value) (t : Int) (w : World) (hT : ErrT w) (hr : RomanT w) (h : CronR w c v0 v1 v2 v4 v6 v8 v9 v10) (hz : CronZ c) (hi : InI t) :
    Calls Tryz.prog 3 #[cronV c v0 v1 v2 v4 v6 v8 v9 v10, .int .i64 t] w fun e w' => e = .returned (.bool true) ∧ Below w.heap.size w w' := by
  have CA : Hid (∀ w0, Below w.heap.size w w0 → Calls Tryz.prog 4 #[cronV c v0 v1 v2 v4 v6 v8 v9 v10, .int .i64 t] w0 fun e w' => ∃ v x, e = .returned (.tuple #[.bool v, .int .i64 x]) ∧ FtR c t v x ∧ Below w0.heap.size w0 w') := Lib.hid fun w0 hb => plainFits_any c _ _ _ _ _ _ _ _ t w0 (hT.call hb) (hr.call hb) (h.call hb) hz
  have CB : Hid (∀ w0, Below w.heap.size w w0 → Calls Tryz.prog 5 #[cronV c v0 v1 v2 v4 v6 v8 v9 v10, .int .i64 t] w0 fun e w' => ∃ v x, e = .returned (.tuple #[.bool v, .int .i64 x]) ∧ FtR c t v x ∧ Below w0.heap.size w0 w') := Lib.hid fun w0 hb => rfits_all c _ _ _ _ _ _ _ _ t w0 hi (h.call hb) hz
  have CC : Hid (∀ w0, Below w.heap.size w w0 → Calls Tryz.prog 6 #[cronV c v0 v1 v2 v4 v6 v8 v9 v10, .int .i64 t] w0 fun e w' => ∃ v x, e = .returned (.tuple #[.int .i64 v, .int .i64 x]) ∧ NxR c t v x ∧ Below w0.heap.size w0 w') := Lib.hid fun w0 hb => plainNext_any c _ _ _ _ _ _ _ _ t w0 (hT.call hb) (hr.call hb) (h.call hb) hz
  have CD : Hid (∀ w0, Below w.heap.size w w0 → Calls Tryz.prog 7 #[cronV c v0 v1 v2 v4 v6 v8 v9 v10, .int .i64 t] w0 fun e w' => ∃ v x, e = .returned (.tuple #[.int .i64 v, .int .i64 x]) ∧ NxR c t v x ∧ Below w0.heap.size w0 w') := Lib.hid fun w0 hb => rnext_all c _ _ _ _ _ _ _ _ t w0 hi (h.call hb) hz
  have HO1 : Hid (∀ v x v' x', FtR c t v x → FtR c t v' x' → v = v' ∧ x = x') := Lib.hid fun v x v' x' a b => a.one b
  have HO2 : Hid (∀ v x v' x', NxR c t v x → NxR c t v' x' → v = v' ∧ x = x') := Lib.hid fun v x v' x' a b => a.one b
  obtain ⟨R1, hR1⟩ : ∃ x, FtR c t = x := ⟨_, rfl⟩
  obtain ⟨R2, hR2⟩ : ∃ x, NxR c t = x := ⟨_, rfl⟩
  rw [hR1] at CA CB HO1
  rw [hR2] at CC CD HO2
  clear hR1 hR2
  obtain ⟨o0, p0, hv0, -, -⟩ := id h.mi
  obtain ⟨n0, hn0⟩ : ∃ n, c.mi.length = n := ⟨_, rfl⟩
  rw [hn0] at hv0
  subst hv0
  obtain ⟨o1, p1, hv1, -, -⟩ := id h.ho
  obtain ⟨n1, hn1⟩ : ∃ n, c.ho.length = n := ⟨_, rfl⟩
  rw [hn1] at hv1
  subst hv1
  obtain ⟨o2, p2, hv2, -, -⟩ := id h.mo
  obtain ⟨n2, hn2⟩ : ∃ n, c.mo.length = n := ⟨_, rfl⟩
  rw [hn2] at hv2
  subst hv2
  obtain ⟨o4, p4, hv4, -, -⟩ := id h.da
  obtain ⟨n4, hn4⟩ : ∃ n, c.da.length = n := ⟨_, rfl⟩
  rw [hn4] at hv4
  subst hv4
  obtain ⟨o6, p6, hv6, -, -⟩ := id h.ne
  obtain ⟨n6, hn6⟩ : ∃ n, c.ne.length = n := ⟨_, rfl⟩
  rw [hn6] at hv6
  subst hv6
  obtain ⟨o8, p8, hv8, -, -⟩ := id h.wd
  obtain ⟨n8, hn8⟩ : ∃ n, c.wd.length = n := ⟨_, rfl⟩
  rw [hn8] at hv8
  subst hv8
  obtain ⟨o9, p9, hv9, -, -⟩ := id h.lo
  obtain ⟨n9, hn9⟩ : ∃ n, c.lo.length = n := ⟨_, rfl⟩
  rw [hn9] at hv9
  subst hv9
  obtain ⟨o10, p10, hv10, -, -⟩ := id h.nt
  obtain ⟨n10, hn10⟩ : ∃ n, c.nt.length = n := ⟨_, rfl⟩
  rw [hn10] at hv10
  subst hv10
  obtain ⟨A, hA⟩ : ∃ x, c.any = x := ⟨_, rfl⟩
  obtain ⟨La, hLa⟩ : ∃ x, c.la = x := ⟨_, rfl⟩
  obtain ⟨Aw, hAw⟩ : ∃ x, c.aw = x := ⟨_, rfl⟩
  unfold cronV at CA CB CC CD ⊢
  rw [hA, hLa, hAw] at CA CB CC CD ⊢
  clear hA hLa hAw hn0 hn1 hn2 hn4 hn6 hn8 hn9 hn10 h hz hT hr hi
  obtain ⟨wB, hwB⟩ : ∃ x, w.alloc (.cells #[.slice o0 n0 p0, .slice o1 n1 p1, .slice o2 n2 p2, .bool A, .slice o4 n4 p4, .bool La, .slice o6 n6 p6, .bool Aw, .slice o8 n8 p8, .slice o9 n9 p9, .slice o10 n10 p10] 25) = x := ⟨_, rfl⟩
  have HBB : Hid (Below w.heap.size w wB) := Lib.hid (by rw [← hwB]; exact (Below.refl _ _).alloc (Nat.le_refl _) _)
  have hlt : w.heap.size < wB.heap.size := by rw [← hwB]; simp
  have HQ0 : Hid (wB.cell? ⟨w.heap.size, 0, none⟩ = some (.slice o0 n0 p0)) := Lib.hid (by rw [← hwB]; simp)
  have HQ1 : Hid (wB.cell? ⟨w.heap.size, 1, none⟩ = some (.slice o1 n1 p1)) := Lib.hid (by rw [← hwB]; simp)
  have HQ2 : Hid (wB.cell? ⟨w.heap.size, 2, none⟩ = some (.slice o2 n2 p2)) := Lib.hid (by rw [← hwB]; simp)
  have HQ3 : Hid (wB.cell? ⟨w.heap.size, 3, none⟩ = some (.bool A)) := Lib.hid (by rw [← hwB]; simp)
  have HQ4 : Hid (wB.cell? ⟨w.heap.size, 4, none⟩ = some (.slice o4 n4 p4)) := Lib.hid (by rw [← hwB]; simp)
  have HQ5 : Hid (wB.cell? ⟨w.heap.size, 5, none⟩ = some (.bool La)) := Lib.hid (by rw [← hwB]; simp)
  have HQ6 : Hid (wB.cell? ⟨w.heap.size, 6, none⟩ = some (.slice o6 n6 p6)) := Lib.hid (by rw [← hwB]; simp)
  have HQ7 : Hid (wB.cell? ⟨w.heap.size, 7, none⟩ = some (.bool Aw)) := Lib.hid (by rw [← hwB]; simp)
  have HQ8 : Hid (wB.cell? ⟨w.heap.size, 8, none⟩ = some (.slice o8 n8 p8)) := Lib.hid (by rw [← hwB]; simp)
  have HQ9 : Hid (wB.cell? ⟨w.heap.size, 9, none⟩ = some (.slice o9 n9 p9)) := Lib.hid (by rw [← hwB]; simp)
  have HQ10 : Hid (wB.cell? ⟨w.heap.size, 10, none⟩ = some (.slice o10 n10 p10)) := Lib.hid (by rw [← hwB]; simp)
  have HwB := Lib.hid hwB
  clear hwB
  have HB0 := Lib.hid ((Below.refl w.heap.size w).alloc (Nat.le_refl _) (.cells #[.slice o0 n0 p0, .slice o1 n1 p1, .slice o2 n2 p2, .bool A, .slice o4 n4 p4, .bool La, .slice o6 n6 p6, .bool Aw, .slice o8 n8 p8, .slice o9 n9 p9, .slice o10 n10 p10] 25))
  go_enter Tryz.func3, Tryz.ntmps3
  go_wp2_with (first
    | (go_at_call 4; refine Calls.mono (by with_reducible exact CA.out _ HB0.out) ?_; rintro e w1 ⟨b1, x1, rfl, hR1, hb1⟩; have HR1 := Lib.hid hR1; have HB1 := Lib.hid (thenB HB0.out hb1); rw [HwB.out] at hb1; have hl1 := Nat.lt_of_lt_of_le hlt hb1.size; have c0 := (hb1.cell (p := ⟨w.heap.size, 0, none⟩) hlt).trans HQ0.out; have c1 := (hb1.cell (p := ⟨w.heap.size, 1, none⟩) hlt).trans HQ1.out; have c2 := (hb1.cell (p := ⟨w.heap.size, 2, none⟩) hlt).trans HQ2.out; have c3 := (hb1.cell (p := ⟨w.heap.size, 3, none⟩) hlt).trans HQ3.out; have c4 := (hb1.cell (p := ⟨w.heap.size, 4, none⟩) hlt).trans HQ4.out; have c5 := (hb1.cell (p := ⟨w.heap.size, 5, none⟩) hlt).trans HQ5.out; have c6 := (hb1.cell (p := ⟨w.heap.size, 6, none⟩) hlt).trans HQ6.out; have c7 := (hb1.cell (p := ⟨w.heap.size, 7, none⟩) hlt).trans HQ7.out; have c8 := (hb1.cell (p := ⟨w.heap.size, 8, none⟩) hlt).trans HQ8.out; have c9 := (hb1.cell (p := ⟨w.heap.size, 9, none⟩) hlt).trans HQ9.out; have c10 := (hb1.cell (p := ⟨w.heap.size, 10, none⟩) hlt).trans HQ10.out; clear hb1 hR1)
    | (go_at_call 5; refine Calls.mono (by with_reducible exact CB.out _ HB1.out) ?_; rintro e w2 ⟨b2, x2, rfl, hR2, hb2⟩; obtain ⟨rfl, rfl⟩ := HO1.out _ _ _ _ HR1.out hR2; have HB2 := Lib.hid (thenB HB1.out hb2); have hl2 := Nat.lt_of_lt_of_le hl1 hb2.size; replace c0 := (hb2.cell (p := ⟨w.heap.size, 0, none⟩) hl1).trans c0; replace c1 := (hb2.cell (p := ⟨w.heap.size, 1, none⟩) hl1).trans c1; replace c2 := (hb2.cell (p := ⟨w.heap.size, 2, none⟩) hl1).trans c2; replace c3 := (hb2.cell (p := ⟨w.heap.size, 3, none⟩) hl1).trans c3; replace c4 := (hb2.cell (p := ⟨w.heap.size, 4, none⟩) hl1).trans c4; replace c5 := (hb2.cell (p := ⟨w.heap.size, 5, none⟩) hl1).trans c5; replace c6 := (hb2.cell (p := ⟨w.heap.size, 6, none⟩) hl1).trans c6; replace c7 := (hb2.cell (p := ⟨w.heap.size, 7, none⟩) hl1).trans c7; replace c8 := (hb2.cell (p := ⟨w.heap.size, 8, none⟩) hl1).trans c8; replace c9 := (hb2.cell (p := ⟨w.heap.size, 9, none⟩) hl1).trans c9; replace c10 := (hb2.cell (p := ⟨w.heap.size, 10, none⟩) hl1).trans c10; clear hb2 hR2)
    | (go_at_call 6; refine Calls.mono (by with_reducible exact CC.out _ HB2.out) ?_; rintro e w3 ⟨v3, x3, rfl, hR3, hb3⟩; have HR3 := Lib.hid hR3; have HB3 := Lib.hid (thenB HB2.out hb3); replace c0 := (hb3.cell (p := ⟨w.heap.size, 0, none⟩) hl2).trans c0; replace c1 := (hb3.cell (p := ⟨w.heap.size, 1, none⟩) hl2).trans c1; replace c2 := (hb3.cell (p := ⟨w.heap.size, 2, none⟩) hl2).trans c2; replace c3 := (hb3.cell (p := ⟨w.heap.size, 3, none⟩) hl2).trans c3; replace c4 := (hb3.cell (p := ⟨w.heap.size, 4, none⟩) hl2).trans c4; replace c5 := (hb3.cell (p := ⟨w.heap.size, 5, none⟩) hl2).trans c5; replace c6 := (hb3.cell (p := ⟨w.heap.size, 6, none⟩) hl2).trans c6; replace c7 := (hb3.cell (p := ⟨w.heap.size, 7, none⟩) hl2).trans c7; replace c8 := (hb3.cell (p := ⟨w.heap.size, 8, none⟩) hl2).trans c8; replace c9 := (hb3.cell (p := ⟨w.heap.size, 9, none⟩) hl2).trans c9; replace c10 := (hb3.cell (p := ⟨w.heap.size, 10, none⟩) hl2).trans c10; clear hb3 hR3)
    | (go_at_call 7; refine Calls.mono (by with_reducible exact CD.out _ HB3.out) ?_; rintro e w4 ⟨v4', x4, rfl, hR4, hb4⟩; obtain ⟨rfl, rfl⟩ := HO2.out _ _ _ _ HR3.out hR4; have HB4 := Lib.hid (thenB HB3.out hb4); clear hb4 hR4))
  go_ret
  exact ⟨rfl, HB4.out⟩
end Go.Proofs.YtdnbnpknmdcljaaGreatDoor
