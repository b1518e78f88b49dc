/- text.Parse. -/
import Derived.Test.YtidgahnamdhflaaDoorPsxJ
import Derived.Test.YtidgahnamdhflaaDoorFldI
import Derived.Test.YtidgahnamdhflaaDoorTellAtC
import Derived.Deep.RegionHeld3
import Derived.BigQuiet
namespace Go.Proofs.YtidgahnamdhflaaDoor
open Go.RowKit Go.Shelf Fld Prt Psx
theorem part_any {rb lo : Nat} {vL : Value} {lines : List (List UInt8)} (hn : lines.length ≤ 1048576) (hl : ∀ i, i < lines.length → (lines.getD i []).length ≤ 1048576) : ∀ k, k ≤ 8 → PartC rb lo vL lines k := by
  intro k
  induction k with
  | zero => intro hk; exact part_at hn hl 0 hk (fun j h => by omega)
  | succ k ih => intro hk; exact part_at hn hl (k + 1) hk (fun j h => by
      obtain rfl : j = k := by omega
      exact ih (by omega))
/-- Unfolded lines are no longer than the text. -/
theorem unfL_at (s : ByteArray) (i : Nat) (hi : i < (unfL s.data.toList).length) : ((unfL s.data.toList).getD i []).length ≤ s.size := by
  have h1 := (foldl_flat (linesOf s.data.toList) []).1
  have h2 := (linesOf_flat s.data.toList).1
  have h4 : ([] : List (List UInt8)).flatten.length = 0 := rfl
  have h5 : ((unfL s.data.toList).getD i []).length ≤ (unfL s.data.toList).flatten.length := by
    have := List.sublist_flatten_of_mem (List.getElem_mem hi)
    simpa [List.getD, hi] using this.length_le
  rw [len_eq] at h2
  unfold unfL at h5 ⊢
  omega
/-- What Parse answers. -/
def PaPost (l : List UInt8) (w : World) (e : Ending) (w' : World) : Prop :=
  ((parseP l).1 = 0 → ∃ u v, e = .returned (.tuple #[.agg #[.string (parseP l).2.2.name, u, v], .nilIface]) ∧ QPart (fun b => w.heap.size ≤ b ∧ b < w'.heap.size) 8 w' u v (parseP l).2.2) ∧
  ((parseP l).1 ≠ 0 → (parseP l).2.1 = -1 → e = .returned (.tuple #[.agg #[.string ⟨#[]⟩, .slice none 0 0, .slice none 0 0], .iface 26 (.int .i64 (parseP l).1)])) ∧
  ((parseP l).1 ≠ 0 → (parseP l).2.1 ≠ -1 → ∃ g, e = .returned (.tuple #[.agg #[.string ⟨#[]⟩, .slice none 0 0, .slice none 0 0], .iface 84 (.pointer (some ⟨g, 0, none⟩))]) ∧ w.heap.size ≤ g ∧ g < w'.heap.size ∧ w'.cell? ⟨g, 0, none⟩ = some (.int .i64 (parseP l).1) ∧ w'.cell? ⟨g, 1, none⟩ = some (.int .i64 (parseP l).2.1)) ∧ Below w.heap.size w w'
theorem parseP_long {l : List UInt8} (h : 100000 < l.length) : parseP l = (6, -1, part0) := by unfold parseP; rw [if_pos h]
theorem parseP_many {l : List UInt8} (h : ¬ 100000 < l.length) (h2 : 2000 < (unfL l).length) : parseP l = (6, -1, part0) := by unfold parseP; rw [if_neg h, if_pos h2]
theorem parseP_go {l : List UInt8} {r : PtP} (h : ¬ 100000 < l.length) (h2 : ¬ 2000 < (unfL l).length) (hr : partP (unfL l) 8 0 = r) : (r.err ≠ 0 → parseP l = (r.err, (r.pos : Int), part0)) ∧ (r.err = 0 → r.pos < (unfL l).length → parseP l = (5, (r.pos : Int), part0)) ∧ (r.err = 0 → ¬ r.pos < (unfL l).length → parseP l = (0, -1, r.part)) := by
  unfold parseP
  rw [if_neg h, if_neg h2]
  simp only
  rw [hr]
  exact ⟨fun g => by rw [if_pos g], fun g g2 => by rw [if_neg (fun h => h g), if_pos g2], fun g g2 => by rw [if_neg (fun h => h g), if_neg g2]⟩
theorem z3_new (w : World) : Z3 w.heap.size (w.alloc (.cells #[.string ⟨#[]⟩, .slice none 0 0, .slice none 0 0] 25)) := ⟨by simp, by simp, by simp, by simp, by simp, by simp⟩
theorem below_grown {w x y : World} {r : Nat} (h : Below w.heap.size w x) (hg : x.grownBy y (some r)) (hr : w.heap.size ≤ r := by exact Nat.le_refl _) : Below w.heap.size w y :=
  h.grown hg h.size (fun k hk => by injection hk with hk; omega)
theorem pa_limit {l : List UInt8} {w w' : World} (h : parseP l = (6, -1, part0)) (hb : Below w.heap.size w w') : PaPost l w (.returned (.tuple #[.agg #[.string ⟨#[]⟩, .slice none 0 0, .slice none 0 0], .iface 26 (.int .i64 6)])) w' := by
  unfold PaPost
  rw [h]
  exact ⟨fun h => absurd h (by decide), fun _ _ => rfl, fun _ h => absurd rfl h, hb⟩
theorem pa_at {l : List UInt8} {w w6 : World} {E : Int} {a : Nat} (h : parseP l = (E, (a : Int), part0)) (hE : E ≠ 0) (hb : Below w.heap.size w w6) (hg : w6.grownBy (((w6.setCell ⟨w.heap.size, 0, none⟩ (.string ⟨#[]⟩)).setCell ⟨w.heap.size, 1, none⟩ (.slice none 0 0)).setCell ⟨w.heap.size, 2, none⟩ (.slice none 0 0)) (some w.heap.size)) : PaPost l w (.returned (.tuple #[.agg #[.string ⟨#[]⟩, .slice none 0 0, .slice none 0 0], .iface 84 (.pointer (some ⟨w6.heap.size, 0, none⟩))])) ((((w6.setCell ⟨w.heap.size, 0, none⟩ (.string ⟨#[]⟩)).setCell ⟨w.heap.size, 1, none⟩ (.slice none 0 0)).setCell ⟨w.heap.size, 2, none⟩ (.slice none 0 0)).alloc (.cells #[.int .i64 E, .int .i64 (a : Int)] 85)) := by
  unfold PaPost
  rw [h]
  have c := cells_at (z := w6.heap.size) (w := ((w6.setCell ⟨w.heap.size, 0, none⟩ (.string ⟨#[]⟩)).setCell ⟨w.heap.size, 1, none⟩ (.slice none 0 0)).setCell ⟨w.heap.size, 2, none⟩ (.slice none 0 0)) (by simp [World.setCell]) [.int .i64 E, .int .i64 (a : Int)] 85
  have c0 := c 0 _ rfl
  have c1 := c 1 _ rfl
  rw [Addr.add_lit] at c0 c1
  exact ⟨fun h => absurd h hE, fun _ h => absurd h (show (a : Int) ≠ -1 by omega), fun _ _ => ⟨w6.heap.size, rfl, hb.size, by simp [World.setCell], c0, c1⟩, thenB (below_grown hb hg) ((Below.refl _ _).alloc (Nat.le_refl _) _)⟩
theorem rd_new {x : World} {lo : Nat} {vL : Value} {lines : List (List UInt8)} (h : StrL x lo vL lines) : Rd x.heap.size lo vL lines 0 (x.alloc (.cells #[vL, .int .i64 0] 82)) :=
  ⟨by simp, by simp, by simp, by simp, h.call ((Below.refl _ _).alloc (Nat.le_refl _) _), fun e => by have := (World.ownsRow.lt h _ e).2; omega⟩
set_option maxRecDepth 100000 in
set_option maxHeartbeats 16000000 in
theorem parse_text (s : ByteArray) (w : World) (hT : ErrT w) (hs : s.size ≤ 9223372036854775807) :
    Calls Tryd.prog 22 #[.string s] w (PaPost s.data.toList w) := by
  by_cases h1 : 100000 < s.size
  · have h1' : (100000 : Int) < (s.size : Int) := by omega
    have HE := Lib.hid (parseP_long (l := s.data.toList) (by rw [len_eq]; exact h1))
    go_enter Tryd.func22, Tryd.ntmps22
    go_wp2_with fail
    have hq1 := (z3_new w).1
    have hq2 := (z3_new w).2.2.1
    have hq3 := (z3_new w).2.2.2.2.1
    exact bodyPost_ret (v := .tuple #[.agg #[.string ⟨#[]⟩, .slice none 0 0, .slice none 0 0], .iface 26 (.int .i64 6)]) (by simp [results, Tryd.results22, go_sem, hq1, hq2, hq3]) rfl (pa_limit HE.out ((Below.refl _ _).alloc (Nat.le_refl _) _))
  · have h1' : ¬ (100000 : Int) < (s.size : Int) := by omega
    replace hs : s.size ≤ 1048576 := by omega
    obtain ⟨U, hU⟩ : ∃ U, unfL s.data.toList = U := ⟨_, rfl⟩
    have hUl := unfL_len s
    rw [hU] at hUl
    have hUa := unfL_at s
    rw [hU] at hUa
    have HUA := Lib.hid hUa
    have CU : Hid (∀ w0, Calls Tryd.prog 39 #[.string s] w0 (TxtR U w0)) := Lib.hid fun w0 => hU ▸ unfold_any s w0 hs
    by_cases h2 : 2000 < U.length
    · have h2' : (2000 : Int) < (U.length : Int) := by omega
      have HE := Lib.hid (parseP_many (l := s.data.toList) (by rw [len_eq]; exact h1) (by rw [hU]; exact h2))
      clear hU hUa
      go_enter Tryd.func22, Tryd.ntmps22
      go_wp2_with (go_at_call 39; refine (CU.out _).mono ?_; rintro e w1 ⟨v, rfl, h, hb⟩; have H1 := Lib.hid h; have hz := (z3_new w).keep (hb.block _ (by simp)); have HZ := Lib.hid hz; obtain ⟨a1, a2, a3, a4, a5, a6⟩ := hz; have f0 : w.heap.size < w1.heap.size := Nat.lt_of_lt_of_le (by simp) hb.size; have HB1 : Hid (Below w.heap.size w w1) := Lib.hid (((Below.refl _ _).alloc (Nat.le_refl _) _).trans (hb.mono (by simp))); have hfm := h.form; obtain ⟨oa, cap, rfl⟩ := hfm; clear h hb)
      have HQ := Lib.hid (HZ.out.fill (c0 := .string ⟨#[]⟩) (c1 := .slice none 0 0) (c2 := .slice none 0 0) rfl)
      have hsz : w.heap.size < (((w1.setCell ⟨w.heap.size, 0, none⟩ (.string ⟨#[]⟩)).setCell ⟨w.heap.size, 1, none⟩ (.slice none 0 0)).setCell ⟨w.heap.size, 2, none⟩ (.slice none 0 0)).heap.size := by simpa [World.setCell] using f0
      have hbA := fun o => (Below.refl (((w1.setCell ⟨w.heap.size, 0, none⟩ (.string ⟨#[]⟩)).setCell ⟨w.heap.size, 1, none⟩ (.slice none 0 0)).setCell ⟨w.heap.size, 2, none⟩ (.slice none 0 0)).heap.size (((w1.setCell ⟨w.heap.size, 0, none⟩ (.string ⟨#[]⟩)).setCell ⟨w.heap.size, 1, none⟩ (.slice none 0 0)).setCell ⟨w.heap.size, 2, none⟩ (.slice none 0 0))).alloc (Nat.le_refl _) o
      have hq1 := fun o => ((hbA o).cell (p := ⟨w.heap.size, 0, none⟩) hsz).trans HQ.out.1
      have hq2 := fun o => ((hbA o).cell (p := ⟨w.heap.size, 1, none⟩) hsz).trans HQ.out.2.1
      have hq3 := fun o => ((hbA o).cell (p := ⟨w.heap.size, 2, none⟩) hsz).trans HQ.out.2.2.1
      exact bodyPost_ret (v := .tuple #[.agg #[.string ⟨#[]⟩, .slice none 0 0, .slice none 0 0], .iface 26 (.int .i64 6)]) (by simp [results, Tryd.results22, go_sem, hq1, hq2, hq3]) rfl (pa_limit HE.out (thenB (below_grown HB1.out HQ.out.2.2.2) (hbA _)))
    · have h2' : ¬ (2000 : Int) < (U.length : Int) := by omega
      obtain ⟨R, hR⟩ : ∃ R, partP U 8 0 = R := ⟨_, rfl⟩
      have hgo := parseP_go (l := s.data.toList) (r := R) (by rw [len_eq]; exact h1) (by rw [hU]; exact h2) (by rw [hU]; exact hR)
      rw [hU] at hgo
      have HGO := Lib.hid hgo
      have CK : Hid (∀ (x : World) (lo : Nat) (vL : Value), StrL x lo vL U → Calls Tryd.prog 40 #[.pointer (some ⟨x.heap.size, 0, none⟩), .int .i64 1] (x.alloc (.cells #[vL, .int .i64 0] 82)) (PtPost 8 x.heap.size lo vL U R (x.alloc (.cells #[vL, .int .i64 0] 82)))) := Lib.hid fun x lo vL h => by
        have hc := part_any (rb := x.heap.size) (lo := lo) (vL := vL) (lines := U) (by omega) (fun i hi => Nat.le_trans (hUa i hi) hs) 8 (Nat.le_refl _) 0 _ (rd_new h) (Nat.zero_le _)
        rw [hR] at hc
        exact hc
      clear hU hUa hgo hR
      by_cases hE : R.err = 0
      · have HE0 := Lib.hid hE
        clear hE
        go_enter Tryd.func22, Tryd.ntmps22
        go_wp2_with (first
          | (go_at_call 39; refine (CU.out _).mono ?_; rintro e w1 ⟨v, rfl, h, hb⟩; have H1 := Lib.hid h; have hz := (z3_new w).keep (hb.block _ (by simp)); have HZ := Lib.hid hz; obtain ⟨a1, a2, a3, a4, a5, a6⟩ := hz; have f0 : w.heap.size < w1.heap.size := Nat.lt_of_lt_of_le (by simp) hb.size; have HB1 : Hid (Below w.heap.size w w1) := Lib.hid (((Below.refl _ _).alloc (Nat.le_refl _) _).trans (hb.mono (by simp))); have hfm := h.form; obtain ⟨oa, cap, rfl⟩ := hfm; clear h hb)
          | (go_at_call 40; refine (CK.out _ _ _ H1.out).mono ?_; rintro e w5 ⟨hRd, hg, hok, -⟩; obtain ⟨u5, v5, rfl, hq5⟩ := hok HE0.out; have HRd := Lib.hid hRd; have HG := Lib.hid hg; have HQ5 := Lib.hid hq5; have hfm := hq5.form; obtain ⟨⟨ou5, n5, cu5, rfl⟩, ov5, m5, cv5, rfl⟩ := hfm; have hz5 := HZ.out.keep ((hg.block w.heap.size (Nat.lt_of_lt_of_le f0 (by simp)) (fun e => absurd (Option.some.inj e) (Nat.ne_of_lt f0))).trans (((Below.refl w1.heap.size w1).alloc (Nat.le_refl _) _).block w.heap.size f0)); have HZ5 := Lib.hid hz5; clear a1 a2 a3 a4 a5 a6; obtain ⟨a1, a2, a3, a4, a5, a6⟩ := hz5; obtain ⟨r0, r1, r2, r3, -, -⟩ := hRd; have f5 : w.heap.size < w5.heap.size := Nat.lt_trans f0 r0; clear hok hg hq5))
        have HBW : Hid (Below w.heap.size w w5) := Lib.hid (below_grown (thenB HB1.out ((Below.refl _ _).alloc (Nat.le_refl _) _)) HG.out (Nat.le_of_lt f0))
        have HTW := Lib.hid (hT.below HBW.out hT.lt)
        have HZX : Hid (∀ n, Z3 w.heap.size ((w5.alloc (.cells #[.string R.part.name, .slice ou5 n5 cu5, .slice ov5 m5 cv5] 25)).drewN n)) := Lib.hid fun n => HZ5.out.keep ((below_drewN ((Below.refl w5.heap.size w5).alloc (Nat.le_refl _) _) n).block _ f5)
        have HBX : Hid (∀ n, Below w5.heap.size w5 ((w5.alloc (.cells #[.string R.part.name, .slice ou5 n5 cu5, .slice ov5 m5 cv5] 25)).drewN n)) := Lib.hid fun n => below_drewN ((Below.refl w5.heap.size w5).alloc (Nat.le_refl _) _) n
        by_cases hps : R.pos < U.length
        · have p1 : (R.pos : Int) < (U.length : Int) := by omega
          have HV := Lib.hid (HGO.out.2.1 HE0.out hps)
          clear hps
          go_quiet (fail)
          go_upto_region 10 with fail
          have CT : Hid (∀ w0, Below w5.heap.size w5 w0 → Calls Tryd.prog 18 #[.iface 26 (.int .i64 5)] w0 fun e w' => e = .returned (.int .i64 5) ∧ Below w0.heap.size w0 w') := Lib.hid fun w0 hb => tell_hit 5 w0 (HTW.out.call hb)
          have SR : Hid (∀ wx, w5.grownBy wx (some w.heap.size) → wx.cell? ⟨w1.heap.size, 1, none⟩ = some (.int .i64 (R.pos : Int))) := Lib.hid fun wx hg => (World.cell?_of_block (a := ⟨w1.heap.size, 1, none⟩) (hg.block w1.heap.size r0 (fun e => absurd (Option.some.inj e) (Nat.ne_of_gt f0)))).trans r2
          have HX := Lib.hid (HBX.out (nq + 1))
          have HZX1 := Lib.hid (HZX.out (nq + 1))
          go_region_held3 (fun w' => w'.cell? ⟨w1.heap.size, 1, none⟩ = some (.int .i64 (R.pos : Int))) (first | exact SR.out _ (grown_call HX.out _) | exact SR.out _ (grown_call HX1.out _) | exact SR.out _ (grown_call (HX1.out.alloc HX1.out.size _) _) | exact SR.out _ HG6.out | exact SR.out _ (grown_then HG6.out (grown_call ((Below.refl _ _).alloc (Nat.le_refl _) _) (some w.heap.size)) (fun k hk => .inr hk)))
            (first | (go_at_call 18; refine (CT.out _ HX.out).mono ?_; rintro e w6 ⟨rfl, hb⟩; have HX1 := Lib.hid (thenB HX.out hb); have hz6 := HZX1.out.keep (hb.block _ (Nat.lt_of_lt_of_le f5 HX.out.size)); have HZ6 := Lib.hid hz6; clear a1 a2 a3 a4 a5 a6; obtain ⟨a1, a2, a3, a4, a5, a6⟩ := hz6; have f6 : w.heap.size < w6.heap.size := Nat.lt_of_lt_of_le f5 HX1.out.size; have HG6 := Lib.hid (grown_then (grown_call HX1.out (some w.heap.size)) (HZ6.out.fill (c0 := .string ⟨#[]⟩) (c1 := .slice none 0 0) (c2 := .slice none 0 0) rfl).2.2.2 (fun k hk => .inr hk)); clear hb))
          all_goals
            go_wp2_with fail
            have HQ := Lib.hid (HZ6.out.fill (c0 := .string ⟨#[]⟩) (c1 := .slice none 0 0) (c2 := .slice none 0 0) rfl)
            have hsz : w.heap.size < (((w6.setCell ⟨w.heap.size, 0, none⟩ (.string ⟨#[]⟩)).setCell ⟨w.heap.size, 1, none⟩ (.slice none 0 0)).setCell ⟨w.heap.size, 2, none⟩ (.slice none 0 0)).heap.size := by simpa [World.setCell] using f6
            have hbA := fun o => (Below.refl (((w6.setCell ⟨w.heap.size, 0, none⟩ (.string ⟨#[]⟩)).setCell ⟨w.heap.size, 1, none⟩ (.slice none 0 0)).setCell ⟨w.heap.size, 2, none⟩ (.slice none 0 0)).heap.size (((w6.setCell ⟨w.heap.size, 0, none⟩ (.string ⟨#[]⟩)).setCell ⟨w.heap.size, 1, none⟩ (.slice none 0 0)).setCell ⟨w.heap.size, 2, none⟩ (.slice none 0 0))).alloc (Nat.le_refl _) o
            have hq1 := fun o => ((hbA o).cell (p := ⟨w.heap.size, 0, none⟩) hsz).trans HQ.out.1
            have hq2 := fun o => ((hbA o).cell (p := ⟨w.heap.size, 1, none⟩) hsz).trans HQ.out.2.1
            have hq3 := fun o => ((hbA o).cell (p := ⟨w.heap.size, 2, none⟩) hsz).trans HQ.out.2.2.1
            exact bodyPost_ret (v := .tuple #[.agg #[.string ⟨#[]⟩, .slice none 0 0, .slice none 0 0], .iface 84 (.pointer (some ⟨w6.heap.size, 0, none⟩))]) (by simp [results, Tryd.results22, go_sem, hq1, hq2, hq3]) rfl (pa_at HV.out (by decide) (thenB HBW.out HX1.out) HQ.out.2.2.2)
        · have p1 : ¬ (R.pos : Int) < (U.length : Int) := by omega
          have HV := Lib.hid (HGO.out.2.2 HE0.out hps)
          clear hps
          go_quiet (fail)
          have HQ := Lib.hid (fun n => (HZX.out n).fill (c0 := .string R.part.name) (c1 := .slice ou5 n5 cu5) (c2 := .slice ov5 m5 cv5) rfl)
          go_wp2_with fail
          have hq1 := fun n => (HQ.out n).1
          have hq2 := fun n => (HQ.out n).2.1
          have hq3 := fun n => (HQ.out n).2.2.1
          refine bodyPost_ret (v := .tuple #[.agg #[.string R.part.name, .slice ou5 n5 cu5, .slice ov5 m5 cv5], .nilIface]) (by simp [results, Tryd.results22, go_sem, hq1, hq2, hq3]) rfl ?_
          unfold PaPost
          rw [HV.out]
          refine ⟨fun _ => ⟨_, _, rfl, HQ5.out.keep fun b hb => ?_⟩, fun h => absurd rfl h, fun h => absurd rfl h, below_grown (thenB HBW.out (HBX.out _)) (HQ.out _).2.2.2⟩
          have h7 := hb.1
          simp at h7
          have hgg := grown_then (grown_call (HBX.out nq) (some w.heap.size)) (HQ.out nq).2.2.2 (fun k hk => .inr hk)
          exact ⟨⟨by omega, Nat.lt_of_lt_of_le hb.2 hgg.size⟩, hgg.block b hb.2 (fun e => by injection e with e; omega)⟩
      · have HE0 := Lib.hid hE
        have HV := Lib.hid (HGO.out.1 hE)
        obtain ⟨E5, hE5⟩ : ∃ E, R.err = E := ⟨_, rfl⟩
        rw [hE5] at HV HE0
        have HE5 := Lib.hid hE5
        clear hE hE5
        go_enter Tryd.func22, Tryd.ntmps22
        go_wp2_with (first
          | (go_at_call 39; refine (CU.out _).mono ?_; rintro e w1 ⟨v, rfl, h, hb⟩; have H1 := Lib.hid h; have hz := (z3_new w).keep (hb.block _ (by simp)); have HZ := Lib.hid hz; obtain ⟨a1, a2, a3, a4, a5, a6⟩ := hz; have f0 : w.heap.size < w1.heap.size := Nat.lt_of_lt_of_le (by simp) hb.size; have HB1 : Hid (Below w.heap.size w w1) := Lib.hid (((Below.refl _ _).alloc (Nat.le_refl _) _).trans (hb.mono (by simp))); have hfm := h.form; obtain ⟨oa, cap, rfl⟩ := hfm; clear h hb)
          | (go_at_call 40; refine (CK.out _ _ _ H1.out).mono ?_; rintro e w5 ⟨hRd, hg, -, hno⟩; rw [HE5.out] at hno; obtain ⟨nm5, ou5, n5, cu5, ov5, m5, cv5, rfl⟩ := hno HE0.out; have HG := Lib.hid hg; have hz5 := HZ.out.keep ((hg.block w.heap.size (Nat.lt_of_lt_of_le f0 (by simp)) (fun e => absurd (Option.some.inj e) (Nat.ne_of_lt f0))).trans (((Below.refl w1.heap.size w1).alloc (Nat.le_refl _) _).block w.heap.size f0)); have HZ5 := Lib.hid hz5; clear a1 a2 a3 a4 a5 a6; obtain ⟨a1, a2, a3, a4, a5, a6⟩ := hz5; obtain ⟨r0, r1, r2, r3, -, -⟩ := hRd; have f5 : w.heap.size < w5.heap.size := Nat.lt_trans f0 r0; clear hno hg))
        have HBW : Hid (Below w.heap.size w w5) := Lib.hid (below_grown (thenB HB1.out ((Below.refl _ _).alloc (Nat.le_refl _) _)) HG.out (Nat.le_of_lt f0))
        have HTW := Lib.hid (hT.below HBW.out hT.lt)
        have HZX : Hid (∀ n, Z3 w.heap.size ((w5.alloc (.cells #[.string nm5, .slice ou5 n5 cu5, .slice ov5 m5 cv5] 25)).drewN n)) := Lib.hid fun n => HZ5.out.keep ((below_drewN ((Below.refl w5.heap.size w5).alloc (Nat.le_refl _) _) n).block _ f5)
        have HBX : Hid (∀ n, Below w5.heap.size w5 ((w5.alloc (.cells #[.string nm5, .slice ou5 n5 cu5, .slice ov5 m5 cv5] 25)).drewN n)) := Lib.hid fun n => below_drewN ((Below.refl w5.heap.size w5).alloc (Nat.le_refl _) _) n
        go_quiet (fail)
        go_upto_region 10 with fail
        have CT : Hid (∀ w0, Below w5.heap.size w5 w0 → Calls Tryd.prog 18 #[.iface 26 (.int .i64 E5)] w0 fun e w' => e = .returned (.int .i64 E5) ∧ Below w0.heap.size w0 w') := Lib.hid fun w0 hb => tell_hit E5 w0 (HTW.out.call hb)
        have SR : Hid (∀ wx, w5.grownBy wx (some w.heap.size) → wx.cell? ⟨w1.heap.size, 1, none⟩ = some (.int .i64 (R.pos : Int))) := Lib.hid fun wx hg => (World.cell?_of_block (a := ⟨w1.heap.size, 1, none⟩) (hg.block w1.heap.size r0 (fun e => absurd (Option.some.inj e) (Nat.ne_of_gt f0)))).trans r2
        have HX := Lib.hid (HBX.out (nq + 1))
        have HZX1 := Lib.hid (HZX.out (nq + 1))
        go_region_held3 (fun w' => w'.cell? ⟨w1.heap.size, 1, none⟩ = some (.int .i64 (R.pos : Int))) (first | exact SR.out _ (grown_call HX.out _) | exact SR.out _ (grown_call HX1.out _) | exact SR.out _ (grown_call (HX1.out.alloc HX1.out.size _) _) | exact SR.out _ HG6.out | exact SR.out _ (grown_then HG6.out (grown_call ((Below.refl _ _).alloc (Nat.le_refl _) _) (some w.heap.size)) (fun k hk => .inr hk)))
          (first | (go_at_call 18; refine (CT.out _ HX.out).mono ?_; rintro e w6 ⟨rfl, hb⟩; have HX1 := Lib.hid (thenB HX.out hb); have hz6 := HZX1.out.keep (hb.block _ (Nat.lt_of_lt_of_le f5 HX.out.size)); have HZ6 := Lib.hid hz6; clear a1 a2 a3 a4 a5 a6; obtain ⟨a1, a2, a3, a4, a5, a6⟩ := hz6; have f6 : w.heap.size < w6.heap.size := Nat.lt_of_lt_of_le f5 HX1.out.size; have HG6 := Lib.hid (grown_then (grown_call HX1.out (some w.heap.size)) (HZ6.out.fill (c0 := .string ⟨#[]⟩) (c1 := .slice none 0 0) (c2 := .slice none 0 0) rfl).2.2.2 (fun k hk => .inr hk)); clear hb))
        all_goals
          go_wp2_with fail
          have HQ := Lib.hid (HZ6.out.fill (c0 := .string ⟨#[]⟩) (c1 := .slice none 0 0) (c2 := .slice none 0 0) rfl)
          have hsz : w.heap.size < (((w6.setCell ⟨w.heap.size, 0, none⟩ (.string ⟨#[]⟩)).setCell ⟨w.heap.size, 1, none⟩ (.slice none 0 0)).setCell ⟨w.heap.size, 2, none⟩ (.slice none 0 0)).heap.size := by simpa [World.setCell] using f6
          have hbA := fun o => (Below.refl (((w6.setCell ⟨w.heap.size, 0, none⟩ (.string ⟨#[]⟩)).setCell ⟨w.heap.size, 1, none⟩ (.slice none 0 0)).setCell ⟨w.heap.size, 2, none⟩ (.slice none 0 0)).heap.size (((w6.setCell ⟨w.heap.size, 0, none⟩ (.string ⟨#[]⟩)).setCell ⟨w.heap.size, 1, none⟩ (.slice none 0 0)).setCell ⟨w.heap.size, 2, none⟩ (.slice none 0 0))).alloc (Nat.le_refl _) o
          have hq1 := fun o => ((hbA o).cell (p := ⟨w.heap.size, 0, none⟩) hsz).trans HQ.out.1
          have hq2 := fun o => ((hbA o).cell (p := ⟨w.heap.size, 1, none⟩) hsz).trans HQ.out.2.1
          have hq3 := fun o => ((hbA o).cell (p := ⟨w.heap.size, 2, none⟩) hsz).trans HQ.out.2.2.1
          exact bodyPost_ret (v := .tuple #[.agg #[.string ⟨#[]⟩, .slice none 0 0, .slice none 0 0], .iface 84 (.pointer (some ⟨w6.heap.size, 0, none⟩))]) (by simp [results, Tryd.results22, go_sem, hq1, hq2, hq3]) rfl (pa_at HV.out HE0.out (thenB HBW.out HX1.out) HQ.out.2.2.2)
end Go.Proofs.YtidgahnamdhflaaDoor
