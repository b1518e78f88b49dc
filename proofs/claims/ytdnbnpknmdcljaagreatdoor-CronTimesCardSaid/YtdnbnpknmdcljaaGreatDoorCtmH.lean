/- plain.CronFits, plain.CronNext. -/
import Derived.Test.YtdnbnpknmdcljaaGreatDoorCtmG
namespace Go.Proofs.YtdnbnpknmdcljaaGreatDoor
open Go.RowKit
theorem cfits_all (c : Cron) (v0 v1 v2 v4 v6 v8 v9 v10 : Value) (t : Int) (w : World) (hr : RomanT w) (h : CronR w c v0 v1 v2 v4 v6 v8 v9 v10) (hz : CronZ c) :
    Calls Tryz.prog 8 #[cronV c v0 v1 v2 v4 v6 v8 v9 v10, .int .i64 t] w fun e w' => ∃ v x, e = .returned (.tuple #[.bool v, errV x]) ∧ FtR c t v x ∧ Below w.heap.size w w' := by
  rcases hok : c.ok with _ | _
  · exact (cfits_bad c _ _ _ _ _ _ _ _ t w h hz hok).mono fun e w' ⟨h1, h2⟩ => ⟨false, 1, by rw [h1, errV_hit (by decide)], .bad hok, h2⟩
  · rcases loc_ways t with ht | ⟨h1, h2⟩
    · exact (cfits_off c _ _ _ _ _ _ _ _ t w hr h hz hok ht).mono fun e w' ⟨h1, h2⟩ => ⟨false, 4, by rw [h1, errV_hit (by decide)], .off hok ht, h2⟩
    · exact (cfits_ok c _ _ _ _ _ _ _ _ t w hr h hz hok h1 h2).mono fun e w' ⟨b, h1, h2, h3⟩ => ⟨b, 0, h1, h2, h3⟩
theorem cnext_all (c : Cron) (v0 v1 v2 v4 v6 v8 v9 v10 : Value) (t : Int) (w : World) (hr : RomanT w) (h : CronR w c v0 v1 v2 v4 v6 v8 v9 v10) (hz : CronZ c) :
    Calls Tryz.prog 14 #[cronV c v0 v1 v2 v4 v6 v8 v9 v10, .int .i64 t] w fun e w' => ∃ v x, e = .returned (.tuple #[.int .i64 v, errV x]) ∧ NxR c t v x ∧ Below w.heap.size w w' := by
  rcases hok : c.ok with _ | _
  · exact (cnext_bad c _ _ _ _ _ _ _ _ t w h hz hok).mono fun e w' ⟨h1, h2⟩ => ⟨0, 1, by rw [h1, errV_hit (by decide)], .bad hok, h2⟩
  · rcases loc_ways t with ht | ⟨h1, h2⟩
    · exact (cnext_off c _ _ _ _ _ _ _ _ t w h hz hok ht).mono fun e w' ⟨h1, h2⟩ => ⟨0, 4, by rw [h1, errV_hit (by decide)], .off hok ht, h2⟩
    · exact cnext_ok c _ _ _ _ _ _ _ _ t w hr h hz hok h1 h2
def FitsPost (c : Cron) (t : Int) (w : World) (e : Ending) (w' : World) : Prop := ∃ v x, e = .returned (.tuple #[.bool v, .int .i64 x]) ∧ FtR c t v x ∧ Below w.heap.size w w'
def NextPost (c : Cron) (t : Int) (w : World) (e : Ending) (w' : World) : Prop := ∃ v x, e = .returned (.tuple #[.int .i64 v, .int .i64 x]) ∧ NxR c t v x ∧ Below w.heap.size w w'
set_option maxHeartbeats 4000000 in
theorem plainFits_any (c : Cron) (v0 v1 v2 v4 v6 v8 v9 v10 : Value) (t : Int) (w : World) (hT : ErrT w) (hr : RomanT w) (h : CronR w c v0 v1 v2 v4 v6 v8 v9 v10) (hz : CronZ c) :
    Calls Tryz.prog 4 #[cronV c v0 v1 v2 v4 v6 v8 v9 v10, .int .i64 t] w (FitsPost c t w) := by
  have HT := Lib.hid hT
  have C : Hid (∀ w0, Below w.heap.size w w0 → Calls Tryz.prog 8 #[cronV c v0 v1 v2 v4 v6 v8 v9 v10, .int .i64 t] w0 fun e w' => ∃ v x, e = .returned (.tuple #[.bool v, errV x]) ∧ FtR c t v x ∧ Below w0.heap.size w0 w') := Lib.hid fun w0 hb => cfits_all c _ _ _ _ _ _ _ _ t w0 (hr.call hb) (h.call hb) hz
  obtain ⟨o0, p0, hv0, -, -⟩ := id h.mi
  obtain ⟨n0, hn0⟩ : ∃ n, c.mi.length = n := ⟨_, rfl⟩
  rw [hn0] at hv0
  subst hv0
  obtain ⟨o1, p1, hv1, -, -⟩ := id h.ho
  obtain ⟨n1, hn1⟩ : ∃ n, c.ho.length = n := ⟨_, rfl⟩
  rw [hn1] at hv1
  subst hv1
  obtain ⟨o2, p2, hv2, -, -⟩ := id h.mo
  obtain ⟨n2, hn2⟩ : ∃ n, c.mo.length = n := ⟨_, rfl⟩
  rw [hn2] at hv2
  subst hv2
  obtain ⟨o4, p4, hv4, -, -⟩ := id h.da
  obtain ⟨n4, hn4⟩ : ∃ n, c.da.length = n := ⟨_, rfl⟩
  rw [hn4] at hv4
  subst hv4
  obtain ⟨o6, p6, hv6, -, -⟩ := id h.ne
  obtain ⟨n6, hn6⟩ : ∃ n, c.ne.length = n := ⟨_, rfl⟩
  rw [hn6] at hv6
  subst hv6
  obtain ⟨o8, p8, hv8, -, -⟩ := id h.wd
  obtain ⟨n8, hn8⟩ : ∃ n, c.wd.length = n := ⟨_, rfl⟩
  rw [hn8] at hv8
  subst hv8
  obtain ⟨o9, p9, hv9, -, -⟩ := id h.lo
  obtain ⟨n9, hn9⟩ : ∃ n, c.lo.length = n := ⟨_, rfl⟩
  rw [hn9] at hv9
  subst hv9
  obtain ⟨o10, p10, hv10, -, -⟩ := id h.nt
  obtain ⟨n10, hn10⟩ : ∃ n, c.nt.length = n := ⟨_, rfl⟩
  rw [hn10] at hv10
  subst hv10
  obtain ⟨A, hA⟩ : ∃ x, c.any = x := ⟨_, rfl⟩
  obtain ⟨La, hLa⟩ : ∃ x, c.la = x := ⟨_, rfl⟩
  obtain ⟨Aw, hAw⟩ : ∃ x, c.aw = x := ⟨_, rfl⟩
  unfold FitsPost
  obtain ⟨RR, hRR⟩ : ∃ x, FtR c t = x := ⟨_, rfl⟩
  rw [hRR] at C ⊢
  unfold cronV at C ⊢
  rw [hA, hLa, hAw] at C ⊢
  clear hA hLa hAw hn0 hn1 hn2 hn4 hn6 hn8 hn9 hn10 h hz hT hr hRR
  have HB0 := Lib.hid ((Below.refl w.heap.size w).alloc (Nat.le_refl _) (.cells #[.slice o0 n0 p0, .slice o1 n1 p1, .slice o2 n2 p2, .bool A, .slice o4 n4 p4, .bool La, .slice o6 n6 p6, .bool Aw, .slice o8 n8 p8, .slice o9 n9 p9, .slice o10 n10 p10] 25))
  go_enter Tryz.func4, Tryz.ntmps4
  go_wp2_with (first
    | (go_at_call 8; refine Calls.mono (by with_reducible exact C.out _ HB0.out) ?_; rintro e w1 ⟨v, x, rfl, hR, hb1⟩; have HR := Lib.hid hR; have HB1 := Lib.hid (thenB HB0.out hb1); have HT1 := Lib.hid (HT.out.call HB1.out); clear hb1 hR)
    | (go_at_call 9; refine (tell_any x _ HT1.out).mono ?_; rintro e w2 ⟨rfl, hb2⟩; have HB2 := Lib.hid (thenB HB1.out hb2); clear hb2))
  go_ret2
  exact ⟨v, x, rfl, HR.out, HB2.out⟩
set_option maxHeartbeats 4000000 in
theorem plainNext_any (c : Cron) (v0 v1 v2 v4 v6 v8 v9 v10 : Value) (t : Int) (w : World) (hT : ErrT w) (hr : RomanT w) (h : CronR w c v0 v1 v2 v4 v6 v8 v9 v10) (hz : CronZ c) :
    Calls Tryz.prog 6 #[cronV c v0 v1 v2 v4 v6 v8 v9 v10, .int .i64 t] w (NextPost c t w) := by
  have HT := Lib.hid hT
  have C : Hid (∀ w0, Below w.heap.size w w0 → Calls Tryz.prog 14 #[cronV c v0 v1 v2 v4 v6 v8 v9 v10, .int .i64 t] w0 fun e w' => ∃ v x, e = .returned (.tuple #[.int .i64 v, errV x]) ∧ NxR c t v x ∧ Below w0.heap.size w0 w') := Lib.hid fun w0 hb => cnext_all c _ _ _ _ _ _ _ _ t w0 (hr.call hb) (h.call hb) hz
  obtain ⟨o0, p0, hv0, -, -⟩ := id h.mi
  obtain ⟨n0, hn0⟩ : ∃ n, c.mi.length = n := ⟨_, rfl⟩
  rw [hn0] at hv0
  subst hv0
  obtain ⟨o1, p1, hv1, -, -⟩ := id h.ho
  obtain ⟨n1, hn1⟩ : ∃ n, c.ho.length = n := ⟨_, rfl⟩
  rw [hn1] at hv1
  subst hv1
  obtain ⟨o2, p2, hv2, -, -⟩ := id h.mo
  obtain ⟨n2, hn2⟩ : ∃ n, c.mo.length = n := ⟨_, rfl⟩
  rw [hn2] at hv2
  subst hv2
  obtain ⟨o4, p4, hv4, -, -⟩ := id h.da
  obtain ⟨n4, hn4⟩ : ∃ n, c.da.length = n := ⟨_, rfl⟩
  rw [hn4] at hv4
  subst hv4
  obtain ⟨o6, p6, hv6, -, -⟩ := id h.ne
  obtain ⟨n6, hn6⟩ : ∃ n, c.ne.length = n := ⟨_, rfl⟩
  rw [hn6] at hv6
  subst hv6
  obtain ⟨o8, p8, hv8, -, -⟩ := id h.wd
  obtain ⟨n8, hn8⟩ : ∃ n, c.wd.length = n := ⟨_, rfl⟩
  rw [hn8] at hv8
  subst hv8
  obtain ⟨o9, p9, hv9, -, -⟩ := id h.lo
  obtain ⟨n9, hn9⟩ : ∃ n, c.lo.length = n := ⟨_, rfl⟩
  rw [hn9] at hv9
  subst hv9
  obtain ⟨o10, p10, hv10, -, -⟩ := id h.nt
  obtain ⟨n10, hn10⟩ : ∃ n, c.nt.length = n := ⟨_, rfl⟩
  rw [hn10] at hv10
  subst hv10
  obtain ⟨A, hA⟩ : ∃ x, c.any = x := ⟨_, rfl⟩
  obtain ⟨La, hLa⟩ : ∃ x, c.la = x := ⟨_, rfl⟩
  obtain ⟨Aw, hAw⟩ : ∃ x, c.aw = x := ⟨_, rfl⟩
  unfold NextPost
  obtain ⟨RR, hRR⟩ : ∃ x, NxR c t = x := ⟨_, rfl⟩
  rw [hRR] at C ⊢
  unfold cronV at C ⊢
  rw [hA, hLa, hAw] at C ⊢
  clear hA hLa hAw hn0 hn1 hn2 hn4 hn6 hn8 hn9 hn10 h hz hT hr hRR
  have HB0 := Lib.hid ((Below.refl w.heap.size w).alloc (Nat.le_refl _) (.cells #[.slice o0 n0 p0, .slice o1 n1 p1, .slice o2 n2 p2, .bool A, .slice o4 n4 p4, .bool La, .slice o6 n6 p6, .bool Aw, .slice o8 n8 p8, .slice o9 n9 p9, .slice o10 n10 p10] 25))
  go_enter Tryz.func6, Tryz.ntmps6
  go_wp2_with (first
    | (go_at_call 14; refine Calls.mono (by with_reducible exact C.out _ HB0.out) ?_; rintro e w1 ⟨v, x, rfl, hR, hb1⟩; have HR := Lib.hid hR; have HB1 := Lib.hid (thenB HB0.out hb1); have HT1 := Lib.hid (HT.out.call HB1.out); clear hb1 hR)
    | (go_at_call 9; refine (tell_any x _ HT1.out).mono ?_; rintro e w2 ⟨rfl, hb2⟩; have HB2 := Lib.hid (thenB HB1.out hb2); clear hb2))
  go_ret2
  exact ⟨v, x, rfl, HR.out, HB2.out⟩
end Go.Proofs.YtdnbnpknmdcljaaGreatDoor
