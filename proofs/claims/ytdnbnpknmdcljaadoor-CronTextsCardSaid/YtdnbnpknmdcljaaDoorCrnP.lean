/- The document's CronText of a Cron that may not be; the law CronTexts. -/
import Derived.Test.YtdnbnpknmdcljaaDoorCrnO
namespace Go.Proofs.YtdnbnpknmdcljaaDoor
open Go.RowKit Go.Shelf
set_option maxHeartbeats 4000000 in
theorem rtext_bad (c : Cron) (v0 v1 v2 v4 v6 v8 v9 v10 : Value) (w : World) (h : CronR w c v0 v1 v2 v4 v6 v8 v9 v10) (hz : CronZ c) (hok : c.ok = false) :
    Calls Tryd.prog 5 #[cronV c v0 v1 v2 v4 v6 v8 v9 v10] w fun e w' => e = .returned (.tuple #[.string ⟨#[]⟩, .int .i64 1]) ∧ Below w.heap.size w w' := by
  have CK : Hid (∀ w0, Below w.heap.size w w0 → Calls Tryd.prog 7 #[cronV c v0 v1 v2 v4 v6 v8 v9 v10] w0 fun e w' => e = .returned (.int .i64 1) ∧ Below w0.heap.size w0 w') := Lib.hid fun w0 hb => by
    have k := rcheck_any c _ _ _ _ _ _ _ _ w0 (h.call hb) hz
    rw [hok] at k
    exact k
  obtain ⟨o0, p0, hv0, -, -⟩ := id h.mi
  obtain ⟨n0, hn0⟩ : ∃ n, c.mi.length = n := ⟨_, rfl⟩
  rw [hn0] at hv0
  subst hv0
  obtain ⟨o1, p1, hv1, -, -⟩ := id h.ho
  obtain ⟨n1, hn1⟩ : ∃ n, c.ho.length = n := ⟨_, rfl⟩
  rw [hn1] at hv1
  subst hv1
  obtain ⟨o2, p2, hv2, -, -⟩ := id h.mo
  obtain ⟨n2, hn2⟩ : ∃ n, c.mo.length = n := ⟨_, rfl⟩
  rw [hn2] at hv2
  subst hv2
  obtain ⟨o4, p4, hv4, -, -⟩ := id h.da
  obtain ⟨n4, hn4⟩ : ∃ n, c.da.length = n := ⟨_, rfl⟩
  rw [hn4] at hv4
  subst hv4
  obtain ⟨o6, p6, hv6, -, -⟩ := id h.ne
  obtain ⟨n6, hn6⟩ : ∃ n, c.ne.length = n := ⟨_, rfl⟩
  rw [hn6] at hv6
  subst hv6
  obtain ⟨o8, p8, hv8, -, -⟩ := id h.wd
  obtain ⟨n8, hn8⟩ : ∃ n, c.wd.length = n := ⟨_, rfl⟩
  rw [hn8] at hv8
  subst hv8
  obtain ⟨o9, p9, hv9, -, -⟩ := id h.lo
  obtain ⟨n9, hn9⟩ : ∃ n, c.lo.length = n := ⟨_, rfl⟩
  rw [hn9] at hv9
  subst hv9
  obtain ⟨o10, p10, hv10, -, -⟩ := id h.nt
  obtain ⟨n10, hn10⟩ : ∃ n, c.nt.length = n := ⟨_, rfl⟩
  rw [hn10] at hv10
  subst hv10
  obtain ⟨A, hA⟩ : ∃ x, c.any = x := ⟨_, rfl⟩
  obtain ⟨La, hLa⟩ : ∃ x, c.la = x := ⟨_, rfl⟩
  obtain ⟨Aw, hAw⟩ : ∃ x, c.aw = x := ⟨_, rfl⟩
  unfold cronV at CK ⊢
  rw [hA, hLa, hAw] at CK ⊢
  clear hA hLa hAw hn0 hn1 hn2 hn4 hn6 hn8 hn9 hn10 h hz hok
  have HB0 := Lib.hid ((Below.refl w.heap.size w).alloc (Nat.le_refl _) (.cells #[.slice o0 n0 p0, .slice o1 n1 p1, .slice o2 n2 p2, .bool A, .slice o4 n4 p4, .bool La, .slice o6 n6 p6, .bool Aw, .slice o8 n8 p8, .slice o9 n9 p9, .slice o10 n10 p10] 25))
  go_enter Tryd.func5, Tryd.ntmps5
  go_wp2_with (go_at_call 7; refine Calls.mono (by with_reducible exact CK.out _ HB0.out) ?_; rintro e w1 ⟨rfl, hb1⟩; have HB1 := Lib.hid (thenB HB0.out hb1); clear hb1)
  go_ret2
  exact ⟨rfl, HB1.out⟩
theorem rtext_any (c : Cron) (v0 v1 v2 v4 v6 v8 v9 v10 : Value) (w : World) (h : CronR w c v0 v1 v2 v4 v6 v8 v9 v10) (hz : CronZ c) :
    Calls Tryd.prog 5 #[cronV c v0 v1 v2 v4 v6 v8 v9 v10] w fun e w' => e = .returned (.tuple #[.string ⟨(textO c).toArray⟩, .int .i64 (okN c.ok)]) ∧ Below w.heap.size w w' := by
  unfold textO okN
  rcases hok : c.ok with _ | _
  · exact rtext_bad c _ _ _ _ _ _ _ _ w h hz hok
  · exact rtext_good c _ _ _ _ _ _ _ _ w h hz hok
set_option maxRecDepth 100000 in
set_option maxHeartbeats 4000000 in
theorem cronTexts_walk (c : Cron) (v0 v1 v2 v4 v6 v8 v9 v10 : Value) (w : World) (hT : ErrT w) (h : CronR w c v0 v1 v2 v4 v6 v8 v9 v10) (hz : CronZ c) :
    Calls Tryd.prog 3 #[cronV c v0 v1 v2 v4 v6 v8 v9 v10] w fun e w' => e = .returned (.bool true) ∧ Below w.heap.size w w' := by
  obtain ⟨S, hS⟩ : ∃ S : ByteArray, (⟨(textO c).toArray⟩ : ByteArray) = S := ⟨_, rfl⟩
  obtain ⟨n, hn⟩ : ∃ n, okN c.ok = n := ⟨_, rfl⟩
  have CA : Hid (∀ w0, Below w.heap.size w w0 → Calls Tryd.prog 4 #[cronV c v0 v1 v2 v4 v6 v8 v9 v10] w0 fun e w' => e = .returned (.tuple #[.string S, .int .i64 n]) ∧ Below w0.heap.size w0 w') := Lib.hid fun w0 hb => hS ▸ hn ▸ plainText_any c _ _ _ _ _ _ _ _ w0 (hT.call hb) (h.call hb) hz
  have CB : Hid (∀ w0, Below w.heap.size w w0 → Calls Tryd.prog 5 #[cronV c v0 v1 v2 v4 v6 v8 v9 v10] w0 fun e w' => e = .returned (.tuple #[.string S, .int .i64 n]) ∧ Below w0.heap.size w0 w') := Lib.hid fun w0 hb => hS ▸ hn ▸ rtext_any c _ _ _ _ _ _ _ _ w0 (h.call hb) hz
  have CC : Hid (∀ w0, Below w.heap.size w w0 → Calls Tryd.prog 6 #[cronV c v0 v1 v2 v4 v6 v8 v9 v10] w0 fun e w' => e = .returned (.int .i64 n) ∧ Below w0.heap.size w0 w') := Lib.hid fun w0 hb => hn ▸ plainCheck_any c _ _ _ _ _ _ _ _ w0 (hT.call hb) (h.call hb) hz
  have CD : Hid (∀ w0, Below w.heap.size w w0 → Calls Tryd.prog 7 #[cronV c v0 v1 v2 v4 v6 v8 v9 v10] w0 fun e w' => e = .returned (.int .i64 n) ∧ Below w0.heap.size w0 w') := Lib.hid fun w0 hb => hn ▸ rcheck_any c _ _ _ _ _ _ _ _ w0 (h.call hb) hz
  obtain ⟨o0, p0, hv0, -, -⟩ := id h.mi
  obtain ⟨n0, hn0⟩ : ∃ n, c.mi.length = n := ⟨_, rfl⟩
  rw [hn0] at hv0
  subst hv0
  obtain ⟨o1, p1, hv1, -, -⟩ := id h.ho
  obtain ⟨n1, hn1⟩ : ∃ n, c.ho.length = n := ⟨_, rfl⟩
  rw [hn1] at hv1
  subst hv1
  obtain ⟨o2, p2, hv2, -, -⟩ := id h.mo
  obtain ⟨n2, hn2⟩ : ∃ n, c.mo.length = n := ⟨_, rfl⟩
  rw [hn2] at hv2
  subst hv2
  obtain ⟨o4, p4, hv4, -, -⟩ := id h.da
  obtain ⟨n4, hn4⟩ : ∃ n, c.da.length = n := ⟨_, rfl⟩
  rw [hn4] at hv4
  subst hv4
  obtain ⟨o6, p6, hv6, -, -⟩ := id h.ne
  obtain ⟨n6, hn6⟩ : ∃ n, c.ne.length = n := ⟨_, rfl⟩
  rw [hn6] at hv6
  subst hv6
  obtain ⟨o8, p8, hv8, -, -⟩ := id h.wd
  obtain ⟨n8, hn8⟩ : ∃ n, c.wd.length = n := ⟨_, rfl⟩
  rw [hn8] at hv8
  subst hv8
  obtain ⟨o9, p9, hv9, -, -⟩ := id h.lo
  obtain ⟨n9, hn9⟩ : ∃ n, c.lo.length = n := ⟨_, rfl⟩
  rw [hn9] at hv9
  subst hv9
  obtain ⟨o10, p10, hv10, -, -⟩ := id h.nt
  obtain ⟨n10, hn10⟩ : ∃ n, c.nt.length = n := ⟨_, rfl⟩
  rw [hn10] at hv10
  subst hv10
  obtain ⟨A, hA⟩ : ∃ x, c.any = x := ⟨_, rfl⟩
  obtain ⟨La, hLa⟩ : ∃ x, c.la = x := ⟨_, rfl⟩
  obtain ⟨Aw, hAw⟩ : ∃ x, c.aw = x := ⟨_, rfl⟩
  unfold cronV at CA CB CC CD ⊢
  rw [hA, hLa, hAw] at CA CB CC CD ⊢
  clear hA hLa hAw hn0 hn1 hn2 hn4 hn6 hn8 hn9 hn10 h hz hS hn hT
  have HB0 := Lib.hid ((Below.refl w.heap.size w).alloc (Nat.le_refl _) (.cells #[.slice o0 n0 p0, .slice o1 n1 p1, .slice o2 n2 p2, .bool A, .slice o4 n4 p4, .bool La, .slice o6 n6 p6, .bool Aw, .slice o8 n8 p8, .slice o9 n9 p9, .slice o10 n10 p10] 25))
  obtain ⟨wB, hwB⟩ : ∃ x, w.alloc (.cells #[.slice o0 n0 p0, .slice o1 n1 p1, .slice o2 n2 p2, .bool A, .slice o4 n4 p4, .bool La, .slice o6 n6 p6, .bool Aw, .slice o8 n8 p8, .slice o9 n9 p9, .slice o10 n10 p10] 25) = x := ⟨_, rfl⟩
  have hlt : w.heap.size < wB.heap.size := by rw [← hwB]; simp
  have HQ0 : Hid (wB.cell? ⟨w.heap.size, 0, none⟩ = some (.slice o0 n0 p0)) := Lib.hid (by rw [← hwB]; simp)
  have HQ1 : Hid (wB.cell? ⟨w.heap.size, 1, none⟩ = some (.slice o1 n1 p1)) := Lib.hid (by rw [← hwB]; simp)
  have HQ2 : Hid (wB.cell? ⟨w.heap.size, 2, none⟩ = some (.slice o2 n2 p2)) := Lib.hid (by rw [← hwB]; simp)
  have HQ3 : Hid (wB.cell? ⟨w.heap.size, 3, none⟩ = some (.bool A)) := Lib.hid (by rw [← hwB]; simp)
  have HQ4 : Hid (wB.cell? ⟨w.heap.size, 4, none⟩ = some (.slice o4 n4 p4)) := Lib.hid (by rw [← hwB]; simp)
  have HQ5 : Hid (wB.cell? ⟨w.heap.size, 5, none⟩ = some (.bool La)) := Lib.hid (by rw [← hwB]; simp)
  have HQ6 : Hid (wB.cell? ⟨w.heap.size, 6, none⟩ = some (.slice o6 n6 p6)) := Lib.hid (by rw [← hwB]; simp)
  have HQ7 : Hid (wB.cell? ⟨w.heap.size, 7, none⟩ = some (.bool Aw)) := Lib.hid (by rw [← hwB]; simp)
  have HQ8 : Hid (wB.cell? ⟨w.heap.size, 8, none⟩ = some (.slice o8 n8 p8)) := Lib.hid (by rw [← hwB]; simp)
  have HQ9 : Hid (wB.cell? ⟨w.heap.size, 9, none⟩ = some (.slice o9 n9 p9)) := Lib.hid (by rw [← hwB]; simp)
  have HQ10 : Hid (wB.cell? ⟨w.heap.size, 10, none⟩ = some (.slice o10 n10 p10)) := Lib.hid (by rw [← hwB]; simp)
  have HwB := Lib.hid hwB
  clear hwB
  go_enter Tryd.func3, Tryd.ntmps3
  go_wp2_with (first
    | (go_at_call 4; refine Calls.mono (by with_reducible exact CA.out _ HB0.out) ?_; rintro e w1 ⟨rfl, hb1⟩; have HB1 := Lib.hid (thenB HB0.out hb1); rw [HwB.out] at hb1; have hl1 := Nat.lt_of_lt_of_le hlt hb1.size; have c0 := (hb1.cell (p := ⟨w.heap.size, 0, none⟩) hlt).trans HQ0.out; have c1 := (hb1.cell (p := ⟨w.heap.size, 1, none⟩) hlt).trans HQ1.out; have c2 := (hb1.cell (p := ⟨w.heap.size, 2, none⟩) hlt).trans HQ2.out; have c3 := (hb1.cell (p := ⟨w.heap.size, 3, none⟩) hlt).trans HQ3.out; have c4 := (hb1.cell (p := ⟨w.heap.size, 4, none⟩) hlt).trans HQ4.out; have c5 := (hb1.cell (p := ⟨w.heap.size, 5, none⟩) hlt).trans HQ5.out; have c6 := (hb1.cell (p := ⟨w.heap.size, 6, none⟩) hlt).trans HQ6.out; have c7 := (hb1.cell (p := ⟨w.heap.size, 7, none⟩) hlt).trans HQ7.out; have c8 := (hb1.cell (p := ⟨w.heap.size, 8, none⟩) hlt).trans HQ8.out; have c9 := (hb1.cell (p := ⟨w.heap.size, 9, none⟩) hlt).trans HQ9.out; have c10 := (hb1.cell (p := ⟨w.heap.size, 10, none⟩) hlt).trans HQ10.out; clear hb1)
    | (go_at_call 5; refine Calls.mono (by with_reducible exact CB.out _ HB1.out) ?_; rintro e w2 ⟨rfl, hb2⟩; have HB2 := Lib.hid (thenB HB1.out hb2); replace c0 := (hb2.cell (p := ⟨w.heap.size, 0, none⟩) hl1).trans c0; replace c1 := (hb2.cell (p := ⟨w.heap.size, 1, none⟩) hl1).trans c1; replace c2 := (hb2.cell (p := ⟨w.heap.size, 2, none⟩) hl1).trans c2; replace c3 := (hb2.cell (p := ⟨w.heap.size, 3, none⟩) hl1).trans c3; replace c4 := (hb2.cell (p := ⟨w.heap.size, 4, none⟩) hl1).trans c4; replace c5 := (hb2.cell (p := ⟨w.heap.size, 5, none⟩) hl1).trans c5; replace c6 := (hb2.cell (p := ⟨w.heap.size, 6, none⟩) hl1).trans c6; replace c7 := (hb2.cell (p := ⟨w.heap.size, 7, none⟩) hl1).trans c7; replace c8 := (hb2.cell (p := ⟨w.heap.size, 8, none⟩) hl1).trans c8; replace c9 := (hb2.cell (p := ⟨w.heap.size, 9, none⟩) hl1).trans c9; replace c10 := (hb2.cell (p := ⟨w.heap.size, 10, none⟩) hl1).trans c10; clear hb2))
  have s0 := cell_regrown c0
  have s1 := cell_regrown c1
  have s2 := cell_regrown c2
  have s3 := cell_regrown c3
  have s4 := cell_regrown c4
  have s5 := cell_regrown c5
  have s6 := cell_regrown c6
  have s7 := cell_regrown c7
  have s8 := cell_regrown c8
  have s9 := cell_regrown c9
  have s10 := cell_regrown c10
  refine wp_region_below (by kernel_rfl) (by kernel_rfl) ?_
  repeat (go_big_quiet_step ((first | (go_at_call 6; exact Calls.regrown_of (by with_reducible exact CC.out _ (thenB HB2.out (below_regrown _ _ _)))) | (go_at_call 7; exact Calls.regrown_of (by with_reducible exact CD.out _ (thenB HB2.out (below_regrown _ _ _)))))))
  refine wpQuiet_nil ?_
  intro w3 hb3
  have HB3 := Lib.hid (thenB HB2.out hb3)
  clear hb3
  go_wp2_with fail
  go_ret
  exact ⟨rfl, HB3.out⟩
end Go.Proofs.YtdnbnpknmdcljaaDoor