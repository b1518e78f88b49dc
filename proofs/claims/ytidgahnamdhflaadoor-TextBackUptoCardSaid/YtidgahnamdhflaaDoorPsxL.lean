/- plain.TextParse. -/
import Derived.Test.YtidgahnamdhflaaDoorPsxK
import Derived.Test.YtidgahnamdhflaaDoorTellAtX
import Derived.Test.YtidgahnamdhflaaDoorQTail
namespace Go.Proofs.YtidgahnamdhflaaDoor
open Go.RowKit Go.Shelf Fld Prt Psx
/-- An error value, by its number and its place. -/
def EvIs (w : World) (ev : Value) (x pl : Int) : Prop :=
  (x = 0 ∧ pl = -1 ∧ ev = .nilIface) ∨ (pl = -1 ∧ ev = .iface 26 (.int .i64 x)) ∨ ∃ g, ev = .iface 84 (.pointer (some ⟨g, 0, none⟩)) ∧ g < w.heap.size ∧ w.cell? ⟨g, 0, none⟩ = some (.int .i64 x) ∧ w.cell? ⟨g, 1, none⟩ = some (.int .i64 pl)
theorem EvIs.call {w w' : World} {ev : Value} {x pl : Int} (h : EvIs w ev x pl) (hb : Below w.heap.size w w') : EvIs w' ev x pl := by
  rcases h with h | h | ⟨g, h1, h2, h3, h4⟩
  · exact .inl h
  · exact .inr (.inl h)
  · exact .inr (.inr ⟨g, h1, Nat.lt_of_lt_of_le h2 hb.size, (hb.cell (p := ⟨g, 0, none⟩) h2).trans h3, (hb.cell (p := ⟨g, 1, none⟩) h2).trans h4⟩)
theorem ev_tell {w : World} {ev : Value} {x pl : Int} (h : EvIs w ev x pl) (hT : ErrT w) : Calls Tryd.prog 18 #[ev] w fun e w' => e = .returned (.int .i64 x) ∧ Below w.heap.size w w' := by
  rcases h with ⟨rfl, _, rfl⟩ | ⟨_, rfl⟩ | ⟨g, rfl, _, h3, _⟩
  · exact tell_nil w
  · exact tell_hit x w hT
  · exact tell_at ⟨g, 0, none⟩ x w hT h3
theorem ev_where {w : World} {ev : Value} {x pl : Int} (h : EvIs w ev x pl) (hT : ErrT w) : Calls Tryd.prog 23 #[ev] w fun e w' => e = .returned (.int .i64 pl) ∧ Below w.heap.size w w' := by
  rcases h with ⟨_, rfl, rfl⟩ | ⟨rfl, rfl⟩ | ⟨g, rfl, _, _, h4⟩
  · exact where_nil w
  · exact where_errno x w hT
  · exact where_at g 0 pl w hT h4
theorem parseP_none {l : List UInt8} (h : (parseP l).1 ≠ 0) : (parseP l).2.2 = part0 := by
  unfold parseP at *
  split
  · rfl
  · split
    · rfl
    · rename_i h1 h2
      rw [if_neg h1, if_neg h2] at h
      simp only at h ⊢
      split
      · rfl
      · split
        · rfl
        · rename_i h3 h4
          rw [if_neg h3, if_neg h4] at h
          exact absurd rfl h
theorem parseP_place {l : List UInt8} (h : (parseP l).1 = 0) : (parseP l).2.1 = -1 := by
  unfold parseP at *
  split
  · rfl
  · split
    · rfl
    · rename_i h1 h2
      rw [if_neg h1, if_neg h2] at h
      simp only at h ⊢
      split
      · rename_i h3
        rw [if_pos h3] at h
        exact absurd h h3
      · split
        · rename_i h3 h4
          rw [if_neg h3, if_pos h4] at h
          exact absurd h (show (5 : Int) ≠ 0 by decide)
        · rfl
/-- Parse, in one. -/
theorem parse_one (s : ByteArray) (w : World) (hT : ErrT w) (hs : s.size ≤ 9223372036854775807) :
    Calls Tryd.prog 22 #[.string s] w fun e w' => ∃ ou n c ov m d ev, e = .returned (.tuple #[.agg #[.string (parseP s.data.toList).2.2.name, .slice ou n c, .slice ov m d], ev]) ∧ QPart (fun b => w.heap.size ≤ b ∧ b < w'.heap.size) 8 w' (.slice ou n c) (.slice ov m d) (parseP s.data.toList).2.2 ∧ EvIs w' ev (parseP s.data.toList).1 (parseP s.data.toList).2.1 ∧ Below w.heap.size w w' :=
  (parse_text s w hT hs).mono fun e w' ⟨h1, h2, h3, h4⟩ => by
    by_cases h0 : (parseP s.data.toList).1 = 0
    · obtain ⟨u, v, rfl, hq⟩ := h1 h0
      obtain ⟨⟨ou, n, c, rfl⟩, ov, m, d, rfl⟩ := hq.form
      exact ⟨ou, n, c, ov, m, d, .nilIface, rfl, hq, .inl ⟨h0, parseP_place h0, rfl⟩, h4⟩
    · have hn := parseP_none h0
      rw [hn]
      by_cases hp : (parseP s.data.toList).2.1 = -1
      · exact ⟨none, 0, 0, none, 0, 0, _, h2 h0 hp, QPart.nil _ _ _, .inr (.inl ⟨hp, rfl⟩), h4⟩
      · obtain ⟨g, h5, g1, g2, g3, g4⟩ := h3 h0 hp
        exact ⟨none, 0, 0, none, 0, 0, _, h5, QPart.nil _ _ _, .inr (.inr ⟨g, rfl, g2, g3, g4⟩), h4⟩
/-- What plain.TextParse answers. -/
def PPost (R : Int × Int × Part) (w : World) (e : Ending) (w' : World) : Prop :=
  ∃ ou n c ov m d, e = .returned (.tuple #[.agg #[.string R.2.2.name, .slice ou n c, .slice ov m d], .int .i64 R.1, .int .i64 R.2.1]) ∧ QPart (fun b => w.heap.size ≤ b ∧ b < w'.heap.size) 8 w' (.slice ou n c) (.slice ov m d) R.2.2 ∧ Below w.heap.size w w'
set_option maxRecDepth 100000 in
set_option maxHeartbeats 4000000 in
theorem plainParse_any (s : ByteArray) (w : World) (hT : ErrT w) (hs : s.size ≤ 9223372036854775807) :
    Calls Tryd.prog 10 #[.string s] w (PPost (parseP s.data.toList) w) := by
  have b1 : Below w.heap.size w (w.alloc (.cells #[.string ⟨#[]⟩, .slice none 0 0, .slice none 0 0] 25)) := (Below.refl _ _).alloc (Nat.le_refl _) _
  have hC := parse_one s (w.alloc (.cells #[.string ⟨#[]⟩, .slice none 0 0, .slice none 0 0] 25)) (hT.call b1) hs
  obtain ⟨R, hR⟩ : ∃ R, parseP s.data.toList = R := ⟨_, rfl⟩
  rw [hR] at hC ⊢
  obtain ⟨x, pl, P⟩ := R
  have HT := Lib.hid (hT.call b1)
  have HB0 := Lib.hid b1
  have CP := Lib.hid hC
  clear hC hR hT hs b1
  go_enter Tryd.func10, Tryd.ntmps10
  go_wp2_with (go_at_call 22; (with_reducible refine CP.out.mono ?_); rintro e w1 ⟨ou, n, c, ov, m, d, ev, rfl, hq, hX, hb1⟩; have HX1 := Lib.hid hX; have HQ1 := Lib.hid hq; have HB1 := Lib.hid hb1; clear hX hb1 hq)
  obtain ⟨W, hW⟩ : ∃ x, w1.alloc (.cells #[.string P.name, .slice ou n c, .slice ov m d] 25) = x := ⟨_, rfl⟩
  have HBW : Hid (Below w1.heap.size w1 W) := Lib.hid (by rw [← hW]; exact (Below.refl _ _).alloc (Nat.le_refl _) _)
  have HTW : Hid (ErrT W) := Lib.hid ((HT.out.call HB1.out).call HBW.out)
  have HXW := Lib.hid (HX1.out.call HBW.out)
  have HZ0 : Hid (Z3 w.heap.size W ∧ w.heap.size < W.heap.size) := Lib.hid ⟨((z3_new w).keep (HB1.out.block _ (by simp))).keep (HBW.out.block _ (Nat.lt_of_lt_of_le (by simp) HB1.out.size)), Nat.lt_of_lt_of_le (Nat.lt_of_lt_of_le (by simp) HB1.out.size) HBW.out.size⟩
  have z0 : W.cell? ⟨w1.heap.size, 0, none⟩ = some (.string P.name) := by rw [← hW]; simp
  have z1 : W.cell? ⟨w1.heap.size, 1, none⟩ = some (.slice ou n c) := by rw [← hW]; simp
  have z2 : W.cell? ⟨w1.heap.size, 2, none⟩ = some (.slice ov m d) := by rw [← hW]; simp
  have HWW : Hid (Below w.heap.size w W) := Lib.hid (thenB (thenB HB0.out HB1.out) HBW.out)
  rw [hW]
  clear hW
  have y0 := cell_regrown z0
  have y1 := cell_regrown z1
  have y2 := cell_regrown z2
  have CTL : Hid (∀ w0, Below W.heap.size W w0 → Calls Tryd.prog 18 #[ev] w0 fun e w' => e = .returned (.int .i64 x) ∧ Below w0.heap.size w0 w') := Lib.hid fun w0 hb => ev_tell (HXW.out.call hb) (HTW.out.call hb)
  have CWH : Hid (∀ w0, Below W.heap.size W w0 → Calls Tryd.prog 23 #[ev] w0 fun e w' => e = .returned (.int .i64 pl) ∧ Below w0.heap.size w0 w') := Lib.hid fun w0 hb => ev_where (HXW.out.call hb) (HTW.out.call hb)
  refine wp_region_below_tail 5 (by kernel_rfl) (by kernel_rfl) ?_
  simp only [List.take_succ_cons, List.take_zero, List.drop_succ_cons, List.drop_zero]
  repeat (go_big_quiet_step ((first | (go_at_call 18; exact Calls.regrown_of (CTL.out _ (below_regrown _ _ _))) | (go_at_call 23; exact Calls.regrown_of (CWH.out _ (below_regrown _ _ _))))))
  refine wpQuiet_nil ?_
  intro w7 hb7
  have HB7 := Lib.hid hb7
  have hz7 := HZ0.out.1.keep (hb7.block _ HZ0.out.2)
  have HZ7 := Lib.hid hz7
  have f7 : w.heap.size < w7.heap.size := Nat.lt_of_lt_of_le HZ0.out.2 hb7.size
  obtain ⟨a1, a2, a3, a4, a5, a6⟩ := hz7
  clear hb7 y0 y1 y2 z0 z1 z2
  go_wp2_with fail
  have HQ := Lib.hid (HZ7.out.fill (c0 := .string P.name) (c1 := .slice ou n c) (c2 := .slice ov m d) rfl)
  have hq1 := HQ.out.1
  have hq2 := HQ.out.2.1
  have hq3 := HQ.out.2.2.1
  refine bodyPost_ret (v := .tuple #[.agg #[.string P.name, .slice ou n c, .slice ov m d], .int .i64 x, .int .i64 pl]) (by simp [results, Tryd.results10, go_sem, hq1, hq2, hq3]) rfl ?_
  have hgg := grown_then (grown_call (thenB HBW.out HB7.out) (some w.heap.size)) HQ.out.2.2.2 (fun k hk => .inr hk)
  refine ⟨ou, n, c, ov, m, d, rfl, HQ1.out.keep fun b hb => ?_, below_grown (thenB HWW.out HB7.out) HQ.out.2.2.2⟩
  have h7 := hb.1
  simp at h7
  exact ⟨⟨by omega, Nat.lt_of_lt_of_le hb.2 hgg.size⟩, hgg.block b hb.2 (fun e => by injection e with e; omega)⟩
end Go.Proofs.YtidgahnamdhflaaDoor
