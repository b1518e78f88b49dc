/- plain.CronCheck. -/
import Derived.Test.YtdnbnpknmdcljaaDoorCrnD
namespace Go.Proofs.YtdnbnpknmdcljaaDoor
open Go.RowKit
set_option maxHeartbeats 4000000 in
theorem plainCheck_any (c : Cron) (v0 v1 v2 v4 v6 v8 v9 v10 : Value) (w : World) (hT : ErrT w) (h : CronR w c v0 v1 v2 v4 v6 v8 v9 v10) (hz : CronZ c) :
    Calls Tryd.prog 6 #[cronV c v0 v1 v2 v4 v6 v8 v9 v10] w fun e w' => e = .returned (.int .i64 (okN c.ok)) ∧ Below w.heap.size w w' := by
  have HT := Lib.hid hT
  obtain ⟨o0, p0, rfl, -, -⟩ := id h.mi
  obtain ⟨n0, hn0⟩ : ∃ n, c.mi.length = n := ⟨_, rfl⟩
  obtain ⟨o1, p1, rfl, -, -⟩ := id h.ho
  obtain ⟨n1, hn1⟩ : ∃ n, c.ho.length = n := ⟨_, rfl⟩
  obtain ⟨o2, p2, rfl, -, -⟩ := id h.mo
  obtain ⟨n2, hn2⟩ : ∃ n, c.mo.length = n := ⟨_, rfl⟩
  obtain ⟨o4, p4, rfl, -, -⟩ := id h.da
  obtain ⟨n4, hn4⟩ : ∃ n, c.da.length = n := ⟨_, rfl⟩
  obtain ⟨o6, p6, rfl, -, -⟩ := id h.ne
  obtain ⟨n6, hn6⟩ : ∃ n, c.ne.length = n := ⟨_, rfl⟩
  obtain ⟨o8, p8, rfl, -, -⟩ := id h.wd
  obtain ⟨n8, hn8⟩ : ∃ n, c.wd.length = n := ⟨_, rfl⟩
  obtain ⟨o9, p9, rfl, -, -⟩ := id h.lo
  obtain ⟨n9, hn9⟩ : ∃ n, c.lo.length = n := ⟨_, rfl⟩
  obtain ⟨o10, p10, rfl, -, -⟩ := id h.nt
  obtain ⟨n10, hn10⟩ : ∃ n, c.nt.length = n := ⟨_, rfl⟩
  rw [hn0, hn1, hn2, hn4, hn6, hn8, hn9, hn10] at h ⊢
  obtain ⟨n, hn⟩ : ∃ n, okN c.ok = n := ⟨_, rfl⟩
  obtain ⟨E, hE⟩ : ∃ E, errV n = E := ⟨_, rfl⟩
  have C : Hid (∀ w0, Below w.heap.size w w0 → Calls Tryd.prog 14 #[cronV c (.slice o0 n0 p0) (.slice o1 n1 p1) (.slice o2 n2 p2) (.slice o4 n4 p4) (.slice o6 n6 p6) (.slice o8 n8 p8) (.slice o9 n9 p9) (.slice o10 n10 p10)] w0 fun e w' => e = .returned E ∧ Below w0.heap.size w0 w') := Lib.hid fun w0 hb => by
    have k := check_any c _ _ _ _ _ _ _ _ w0 (h.call hb) hz
    rw [hn, hE] at k
    exact k
  rw [hn]
  have HE := Lib.hid hE
  clear hn hE hT h hz hn0 hn1 hn2 hn4 hn6 hn8 hn9 hn10
  obtain ⟨A, hA⟩ : ∃ x, c.any = x := ⟨_, rfl⟩
  obtain ⟨La, hLa⟩ : ∃ x, c.la = x := ⟨_, rfl⟩
  obtain ⟨Aw, hAw⟩ : ∃ x, c.aw = x := ⟨_, rfl⟩
  unfold cronV at C ⊢
  rw [hA, hLa, hAw] at C ⊢
  clear hA hLa hAw
  have HB0 := Lib.hid ((Below.refl w.heap.size w).alloc (Nat.le_refl _) (.cells #[.slice o0 n0 p0, .slice o1 n1 p1, .slice o2 n2 p2, .bool A, .slice o4 n4 p4, .bool La, .slice o6 n6 p6, .bool Aw, .slice o8 n8 p8, .slice o9 n9 p9, .slice o10 n10 p10] 25))
  go_enter Tryd.func6, Tryd.ntmps6
  go_wp2_with (first
    | (go_at_call 14; refine Calls.mono (by with_reducible exact C.out _ HB0.out) ?_; rintro e w1 ⟨rfl, hb1⟩; have HB1 := Lib.hid (thenB HB0.out hb1); have HT1 := Lib.hid (HT.out.call HB1.out); clear hb1)
    | (go_at_call 9; rw [← HE.out]; refine (tell_any n _ HT1.out).mono ?_; rintro e w2 ⟨rfl, hb2⟩; have HB2 := Lib.hid (thenB HB1.out hb2); clear hb2))
  go_ret
  exact ⟨rfl, HB2.out⟩
end Go.Proofs.YtdnbnpknmdcljaaDoor
