/- plain.ClockPeriodText, plain.ClockParsePeriod. -/
import Derived.Test.YtkfpnlenmdlmjaaGreatDoorZPerF
import Derived.Test.YtkfpnlenmdlmjaaGreatDoorZPerC
import Derived.Test.YtkfpnlenmdlmjaaGreatDoorZG9
namespace Go.Proofs.YtkfpnlenmdlmjaaGreatDoor
open Go.RowKit Go.Shelf Scm
theorem cparse_any (s : ByteArray) (w : World) (hs : s.size ≤ 9223372036854775807) : Calls Tryz.prog 40 #[.string s] w (PerPost (perF s.data.toList) w) := by
  rcases hB : isB s 0 45 with _ | _
  · exact cparse_no s w hs hB
  · exact cparse_yes s w hs hB
theorem perZ_err {l : List UInt8} {v t : Nat → Int} {b : Bool} {k : Nat} (h : (perZ l v t b k).err ≠ 0) : (perZ l v t b k).v = zero := by
  unfold perZ at *
  by_cases hc : b = true ∧ l.length ≤ k
  · rw [if_pos hc] at h; exact absurd rfl h
  · rw [if_neg hc]
theorem perZ_place {l : List UInt8} {v t : Nat → Int} {b : Bool} {k : Nat} (h : (perZ l v t b k).err = 0) : (perZ l v t b k).place = -1 := by
  unfold perZ at *
  by_cases hc : b = true ∧ l.length ≤ k
  · rw [if_pos hc]
  · rw [if_neg hc] at h; exact absurd h five_ne
theorem perF_all (l : List UInt8) : ((perF l).err ≠ 0 → (perF l).v = zero) ∧ ((perF l).err = 0 → (perF l).place = -1) := by
  unfold perF
  split
  · unfold perT
    split
    · split
      · simp only
        split
        · exact ⟨perZ_err, perZ_place⟩
        · exact ⟨fun _ => rfl, fun h => absurd h ‹_›⟩
      · exact ⟨perZ_err, perZ_place⟩
    · exact ⟨fun _ => rfl, fun h => absurd h ‹_›⟩
  · exact ⟨fun _ => rfl, fun h => absurd h five_ne⟩
set_option maxHeartbeats 2000000 in
theorem plainPer_any (a b c d e : Int) (w : World) (hT : ErrT w) (hp : Pow w) :
    Calls Tryz.prog 17 #[.agg #[.int .i64 a, .int .i64 b, .int .i64 c, .int .i64 d, .int .i64 e]] w (TxPost (Per.textL (Per.five a b c d e)) (.int .i64 (Per.textE (Per.five a b c d e))) w) := by
  have HT := Lib.hid hT
  have C : Hid (∀ w0, Below w.heap.size w w0 → Calls Tryz.prog 39 #[.agg #[.int .i64 a, .int .i64 b, .int .i64 c, .int .i64 d, .int .i64 e]] w0 (TxPost (Per.textL (Per.five a b c d e)) (errV (Per.textE (Per.five a b c d e))) w0)) := Lib.hid fun w0 hb => cptext_any a b c d e w0 (hp.call hb)
  unfold TxPost at C ⊢
  obtain ⟨S, hS⟩ : ∃ S : ByteArray, (⟨(Per.textL (Per.five a b c d e)).toArray⟩ : ByteArray) = S := ⟨_, rfl⟩
  obtain ⟨x, hx⟩ : ∃ x, Per.textE (Per.five a b c d e) = x := ⟨_, rfl⟩
  obtain ⟨E, hE⟩ : ∃ E, errV x = E := ⟨_, rfl⟩
  rw [hS, hx] at C ⊢
  rw [hE] at C
  have HE := Lib.hid hE
  have HB0 := Lib.hid ((Below.refl w.heap.size w).alloc (Nat.le_refl _) (.cells #[.int .i64 a, .int .i64 b, .int .i64 c, .int .i64 d, .int .i64 e] 43))
  clear hT hp hS hx hE
  go_enter Tryz.func17, Tryz.ntmps17
  go_wp2_with (first
    | (go_at_call 39; (with_reducible refine (C.out _ HB0.out).mono ?_); rintro ev w1 ⟨rfl, hb1⟩; have HB1 := Lib.hid (thenB HB0.out hb1); have HT1 := Lib.hid (HT.out.call HB1.out); clear hb1)
    | (go_at_call 20; rw [← HE.out]; refine (tell_any x _ HT1.out).mono ?_; rintro ev w2 ⟨rfl, hb2⟩; have HB2 := Lib.hid (thenB HB1.out hb2); clear hb2))
  go_ret2
  exact ⟨rfl, HB2.out⟩
/-- What plain.ClockParsePeriod answers. -/
def PpPost (R : Scm.Per) (w : World) (e : Ending) (w' : World) : Prop := e = .returned (.tuple #[agg5 R.v, .int .i64 R.err, .int .i64 R.place]) ∧ Below w.heap.size w w'
set_option maxRecDepth 100000 in
set_option maxHeartbeats 4000000 in
theorem plainParse_any (s : ByteArray) (w : World) (hT : ErrT w) (hs : s.size ≤ 9223372036854775807) :
    Calls Tryz.prog 18 #[.string s] w (PpPost (perF s.data.toList) w) := by
  have hC := fun w0 => cparse_any s w0 hs
  obtain ⟨hv, hpl⟩ := perF_all s.data.toList
  obtain ⟨R, hR⟩ : ∃ R, perF s.data.toList = R := ⟨_, rfl⟩
  rw [hR] at hC hv hpl ⊢
  clear hR
  have HT := Lib.hid hT
  clear hT
  unfold PerPost at hC
  by_cases hE : R.err = 0
  · clear hv
    have hv : True := trivial
    have C : Hid (Calls Tryz.prog 40 #[.string s] (w.alloc (.cells #[.int .i64 0, .int .i64 0, .int .i64 0, .int .i64 0, .int .i64 0] 43)) fun e w' => e = .returned (.tuple #[.agg #[.int .i64 (R.v 0), .int .i64 (R.v 1), .int .i64 (R.v 2), .int .i64 (R.v 3), .int .i64 (R.v 4)], .nilIface]) ∧ Below (w.alloc (.cells #[.int .i64 0, .int .i64 0, .int .i64 0, .int .i64 0, .int .i64 0] 43)).heap.size (w.alloc (.cells #[.int .i64 0, .int .i64 0, .int .i64 0, .int .i64 0, .int .i64 0] 43)) w') := Lib.hid ((hC (w.alloc (.cells #[.int .i64 0, .int .i64 0, .int .i64 0, .int .i64 0, .int .i64 0] 43))).mono fun e w' ⟨hb, h⟩ => by
      rcases h with ⟨-, h⟩ | ⟨h, -⟩
      · exact ⟨h, hb⟩
      · exact absurd hE h)
    have HE0 : Hid (R.err = 0 ∧ R.place = -1) := Lib.hid ⟨hE, hpl hE⟩
    have HF0 : Hid (Five w.heap.size zero (w.alloc (.cells #[.int .i64 0, .int .i64 0, .int .i64 0, .int .i64 0, .int .i64 0] 43))) := Lib.hid (Five.new w _)
    clear hC hE hv hpl
    obtain ⟨v0, hv0⟩ : ∃ x, R.v 0 = x := ⟨_, rfl⟩
    obtain ⟨v1, hv1⟩ : ∃ x, R.v 1 = x := ⟨_, rfl⟩
    obtain ⟨v2, hv2⟩ : ∃ x, R.v 2 = x := ⟨_, rfl⟩
    obtain ⟨v3, hv3⟩ : ∃ x, R.v 3 = x := ⟨_, rfl⟩
    obtain ⟨v4, hv4⟩ : ∃ x, R.v 4 = x := ⟨_, rfl⟩
    rw [hv0, hv1, hv2, hv3, hv4] at C
    have HV : Hid (agg5 R.v = .agg #[.int .i64 v0, .int .i64 v1, .int .i64 v2, .int .i64 v3, .int .i64 v4]) := Lib.hid (by unfold agg5; rw [hv0, hv1, hv2, hv3, hv4])
    clear hv0 hv1 hv2 hv3 hv4
    obtain ⟨er, her⟩ : ∃ x, R.err = x := ⟨_, rfl⟩
    obtain ⟨pl, hpl⟩ : ∃ x, R.place = x := ⟨_, rfl⟩
    have HR := Lib.hid (And.intro her hpl)
    rw [her, hpl] at HE0
    clear her hpl
    go_enter Tryz.func18, Tryz.ntmps18
    go_wp2_with (go_at_call 40; (with_reducible refine C.out.mono ?_); rintro e w1 ⟨rfl, hb1⟩; have HB1 := Lib.hid hb1; clear hb1)
    obtain ⟨W, hW⟩ : ∃ x, w1.alloc (.cells #[.int .i64 v0, .int .i64 v1, .int .i64 v2, .int .i64 v3, .int .i64 v4] 43) = x := ⟨_, rfl⟩
    have HBW : Hid (Below w1.heap.size w1 W) := Lib.hid (by rw [← hW]; exact (Below.refl _ _).alloc (Nat.le_refl _) _)
    have HFW : Hid (Five w.heap.size zero W) := Lib.hid ((HF0.out.call HB1.out).call HBW.out)
    have HTW : Hid (ErrT W) := Lib.hid ((HT.out.call (((Below.refl _ _).alloc (Nat.le_refl _) (.cells #[.int .i64 0, .int .i64 0, .int .i64 0, .int .i64 0, .int .i64 0] 43)))).call HB1.out |>.call HBW.out)
    have z0 : W.cell? ⟨w1.heap.size, 0, none⟩ = some (.int .i64 v0) := by rw [← hW]; simp
    have z1 : W.cell? ⟨w1.heap.size, 1, none⟩ = some (.int .i64 v1) := by rw [← hW]; simp
    have z2 : W.cell? ⟨w1.heap.size, 2, none⟩ = some (.int .i64 v2) := by rw [← hW]; simp
    have z3 : W.cell? ⟨w1.heap.size, 3, none⟩ = some (.int .i64 v3) := by rw [← hW]; simp
    have z4 : W.cell? ⟨w1.heap.size, 4, none⟩ = some (.int .i64 v4) := by rw [← hW]; simp
    have HWW : Hid (Below w.heap.size w W) := Lib.hid (thenB (thenB ((Below.refl w.heap.size w).alloc (Nat.le_refl _) (.cells #[.int .i64 0, .int .i64 0, .int .i64 0, .int .i64 0, .int .i64 0] 43)) HB1.out) HBW.out)
    rw [hW]
    clear hW
    have y0 := cell_regrown z0
    have y1 := cell_regrown z1
    have y2 := cell_regrown z2
    have y3 := cell_regrown z3
    have y4 := cell_regrown z4
    have CTL : Hid (∀ w0, Below W.heap.size W w0 → Calls Tryz.prog 20 #[.nilIface] w0 fun e w' => e = .returned (.int .i64 0) ∧ Below w0.heap.size w0 w') := Lib.hid fun w0 hb => tell_any 0 w0 (HTW.out.call hb)
    have CWH : Hid (∀ w0, Below W.heap.size W w0 → Calls Tryz.prog 21 #[.nilIface] w0 fun e w' => e = .returned (.int .i64 (-1)) ∧ Below w0.heap.size w0 w') := Lib.hid fun w0 _ => where_nil w0
    refine wp_region_below_tail 5 (by kernel_rfl) (by kernel_rfl) ?_
    simp only [List.take_succ_cons, List.take_zero, List.drop_succ_cons, List.drop_zero]
    repeat (go_big_quiet_step ((first | (go_at_call 20; exact Calls.regrown_of (CTL.out _ (below_regrown _ _ _))) | (go_at_call 21; exact Calls.regrown_of (CWH.out _ (below_regrown _ _ _))))))
    refine wpQuiet_nil ?_
    intro w7 hb7
    have HF7 := Lib.hid (HFW.out.call hb7)
    have HB7 := Lib.hid (thenB HWW.out hb7)
    clear hb7 y0 y1 y2 y3 y4 z0 z1 z2 z3 z4
    have r0 := (HF7.out.2 0 (by omega)).1; have rf0 := (HF7.out.2 0 (by omega)).2
    have r1 := (HF7.out.2 1 (by omega)).1; have rf1 := (HF7.out.2 1 (by omega)).2
    have r2 := (HF7.out.2 2 (by omega)).1; have rf2 := (HF7.out.2 2 (by omega)).2
    have r3 := (HF7.out.2 3 (by omega)).1; have rf3 := (HF7.out.2 3 (by omega)).2
    have r4 := (HF7.out.2 4 (by omega)).1; have rf4 := (HF7.out.2 4 (by omega)).2
    go_wp2_with fail
    have hq := set_five w7 w.heap.size (.int .i64 v0) (.int .i64 v1) (.int .i64 v2) (.int .i64 v3) (.int .i64 v4) _ _ _ _ _ r0 r1 r2 r3 r4
    exact bodyPost_ret (v := .tuple #[.agg #[.int .i64 v0, .int .i64 v1, .int .i64 v2, .int .i64 v3, .int .i64 v4], .int .i64 0, .int .i64 (-1)]) (by simp [results, Tryz.results18, go_sem, hq.1, hq.2.1, hq.2.2.1, hq.2.2.2.1, hq.2.2.2.2]) rfl ⟨by rw [HV.out, HR.out.1, HR.out.2, HE0.out.1, HE0.out.2], below_set5 HB7.out (Nat.le_refl _) _ _ _ _ _⟩
  · replace hv := hv hE
    have C : Hid (Calls Tryz.prog 40 #[.string s] (w.alloc (.cells #[.int .i64 0, .int .i64 0, .int .i64 0, .int .i64 0, .int .i64 0] 43)) fun e w' => ∃ p : Nat, e = .returned (.tuple #[.agg #[.int .i64 (R.v 0), .int .i64 (R.v 1), .int .i64 (R.v 2), .int .i64 (R.v 3), .int .i64 (R.v 4)], .iface 105 (.pointer (some ⟨p, 0, none⟩))]) ∧ AtBox (w.heap.size + 1) R.err R.place (.iface 105 (.pointer (some ⟨p, 0, none⟩))) w' ∧ Below (w.alloc (.cells #[.int .i64 0, .int .i64 0, .int .i64 0, .int .i64 0, .int .i64 0] 43)).heap.size (w.alloc (.cells #[.int .i64 0, .int .i64 0, .int .i64 0, .int .i64 0, .int .i64 0] 43)) w') := Lib.hid ((hC (w.alloc (.cells #[.int .i64 0, .int .i64 0, .int .i64 0, .int .i64 0, .int .i64 0] 43))).mono fun e w' ⟨hb, h⟩ => by
      rcases h with ⟨h, -⟩ | ⟨-, v, h1, h2⟩
      · exact absurd h hE
      · have h3 := h2
        obtain ⟨p, rfl, -⟩ := h2
        rw [World.size_alloc] at h3
        rw [hv, h1]; exact ⟨p, rfl, h3, hb⟩)
    have HE0 : Hid (R.err = R.err) := Lib.hid rfl
    have HF0 : Hid (Five w.heap.size zero (w.alloc (.cells #[.int .i64 0, .int .i64 0, .int .i64 0, .int .i64 0, .int .i64 0] 43))) := Lib.hid (Five.new w _)
    clear hC hE hv hpl
    obtain ⟨v0, hv0⟩ : ∃ x, R.v 0 = x := ⟨_, rfl⟩
    obtain ⟨v1, hv1⟩ : ∃ x, R.v 1 = x := ⟨_, rfl⟩
    obtain ⟨v2, hv2⟩ : ∃ x, R.v 2 = x := ⟨_, rfl⟩
    obtain ⟨v3, hv3⟩ : ∃ x, R.v 3 = x := ⟨_, rfl⟩
    obtain ⟨v4, hv4⟩ : ∃ x, R.v 4 = x := ⟨_, rfl⟩
    rw [hv0, hv1, hv2, hv3, hv4] at C
    have HV : Hid (agg5 R.v = .agg #[.int .i64 v0, .int .i64 v1, .int .i64 v2, .int .i64 v3, .int .i64 v4]) := Lib.hid (by unfold agg5; rw [hv0, hv1, hv2, hv3, hv4])
    clear hv0 hv1 hv2 hv3 hv4
    obtain ⟨er, her⟩ : ∃ x, R.err = x := ⟨_, rfl⟩
    obtain ⟨pl, hpl⟩ : ∃ x, R.place = x := ⟨_, rfl⟩
    have HR := Lib.hid (And.intro her hpl)
    rw [her, hpl] at C
    clear her hpl
    go_enter Tryz.func18, Tryz.ntmps18
    go_wp2_with (go_at_call 40; (with_reducible refine C.out.mono ?_); rintro e w1 ⟨p, rfl, hX, hb1⟩; have HX1 := Lib.hid hX; have HB1 := Lib.hid hb1; clear hX hb1)
    obtain ⟨W, hW⟩ : ∃ x, w1.alloc (.cells #[.int .i64 v0, .int .i64 v1, .int .i64 v2, .int .i64 v3, .int .i64 v4] 43) = x := ⟨_, rfl⟩
    have HBW : Hid (Below w1.heap.size w1 W) := Lib.hid (by rw [← hW]; exact (Below.refl _ _).alloc (Nat.le_refl _) _)
    have HFW : Hid (Five w.heap.size zero W) := Lib.hid ((HF0.out.call HB1.out).call HBW.out)
    have HTW : Hid (ErrT W) := Lib.hid ((HT.out.call (((Below.refl _ _).alloc (Nat.le_refl _) (.cells #[.int .i64 0, .int .i64 0, .int .i64 0, .int .i64 0, .int .i64 0] 43)))).call HB1.out |>.call HBW.out)
    have z0 : W.cell? ⟨w1.heap.size, 0, none⟩ = some (.int .i64 v0) := by rw [← hW]; simp
    have z1 : W.cell? ⟨w1.heap.size, 1, none⟩ = some (.int .i64 v1) := by rw [← hW]; simp
    have z2 : W.cell? ⟨w1.heap.size, 2, none⟩ = some (.int .i64 v2) := by rw [← hW]; simp
    have z3 : W.cell? ⟨w1.heap.size, 3, none⟩ = some (.int .i64 v3) := by rw [← hW]; simp
    have z4 : W.cell? ⟨w1.heap.size, 4, none⟩ = some (.int .i64 v4) := by rw [← hW]; simp
    have HWW : Hid (Below w.heap.size w W) := Lib.hid (thenB (thenB ((Below.refl w.heap.size w).alloc (Nat.le_refl _) (.cells #[.int .i64 0, .int .i64 0, .int .i64 0, .int .i64 0, .int .i64 0] 43)) HB1.out) HBW.out)
    rw [hW]
    clear hW
    have y0 := cell_regrown z0
    have y1 := cell_regrown z1
    have y2 := cell_regrown z2
    have y3 := cell_regrown z3
    have y4 := cell_regrown z4
    have HXW : Hid (AtBox (w.heap.size + 1) er pl (.iface 105 (.pointer (some ⟨p, 0, none⟩))) W) := Lib.hid (HX1.out.call HBW.out)
    have CTL : Hid (∀ w0, Below W.heap.size W w0 → Calls Tryz.prog 20 #[.iface 105 (.pointer (some ⟨p, 0, none⟩))] w0 fun e w' => e = .returned (.int .i64 er) ∧ Below w0.heap.size w0 w') := Lib.hid fun w0 hb => tell_at ⟨p, 0, none⟩ er w0 (HTW.out.call hb) (by obtain ⟨p', h1, h2, -⟩ := HXW.out.call hb; cases h1; exact h2)
    have CWH : Hid (∀ w0, Below W.heap.size W w0 → Calls Tryz.prog 21 #[.iface 105 (.pointer (some ⟨p, 0, none⟩))] w0 fun e w' => e = .returned (.int .i64 pl) ∧ Below w0.heap.size w0 w') := Lib.hid fun w0 hb => where_at p 0 pl w0 (HTW.out.call hb) (by obtain ⟨p', h1, -, h3, -⟩ := HXW.out.call hb; cases h1; exact h3)
    refine wp_region_below_tail 5 (by kernel_rfl) (by kernel_rfl) ?_
    simp only [List.take_succ_cons, List.take_zero, List.drop_succ_cons, List.drop_zero]
    repeat (go_big_quiet_step ((first | (go_at_call 20; exact Calls.regrown_of (CTL.out _ (below_regrown _ _ _))) | (go_at_call 21; exact Calls.regrown_of (CWH.out _ (below_regrown _ _ _))))))
    refine wpQuiet_nil ?_
    intro w7 hb7
    have HF7 := Lib.hid (HFW.out.call hb7)
    have HB7 := Lib.hid (thenB HWW.out hb7)
    clear hb7 y0 y1 y2 y3 y4 z0 z1 z2 z3 z4
    have r0 := (HF7.out.2 0 (by omega)).1; have rf0 := (HF7.out.2 0 (by omega)).2
    have r1 := (HF7.out.2 1 (by omega)).1; have rf1 := (HF7.out.2 1 (by omega)).2
    have r2 := (HF7.out.2 2 (by omega)).1; have rf2 := (HF7.out.2 2 (by omega)).2
    have r3 := (HF7.out.2 3 (by omega)).1; have rf3 := (HF7.out.2 3 (by omega)).2
    have r4 := (HF7.out.2 4 (by omega)).1; have rf4 := (HF7.out.2 4 (by omega)).2
    go_wp2_with fail
    have hq := set_five w7 w.heap.size (.int .i64 v0) (.int .i64 v1) (.int .i64 v2) (.int .i64 v3) (.int .i64 v4) _ _ _ _ _ r0 r1 r2 r3 r4
    exact bodyPost_ret (v := .tuple #[.agg #[.int .i64 v0, .int .i64 v1, .int .i64 v2, .int .i64 v3, .int .i64 v4], .int .i64 er, .int .i64 pl]) (by simp [results, Tryz.results18, go_sem, hq.1, hq.2.1, hq.2.2.1, hq.2.2.2.1, hq.2.2.2.2]) rfl ⟨by rw [HV.out, HR.out.1, HR.out.2], below_set5 HB7.out (Nat.le_refl _) _ _ _ _ _⟩
end Go.Proofs.YtkfpnlenmdlmjaaGreatDoor
