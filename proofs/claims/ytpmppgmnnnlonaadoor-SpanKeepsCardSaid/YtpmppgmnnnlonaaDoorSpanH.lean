/- The document's table of compositions. -/
import Derived.Test.YtpmppgmnnnlonaaDoorSpanG
import Derived.Test.YtpmppgmnnnlonaaDoorSpanL
import Derived.Test.YtpmppgmnnnlonaaDoorAppend
import Derived.Test.YtpmppgmnnnlonaaDoorQTail
import Derived.OwnWalk
import Derived.Deep.MidRow
namespace Go.Proofs.YtpmppgmnnnlonaaDoor
open Go.RowKit
theorem span_info : (Tryd.prog.info? 23).map (fun i => (i.zero, i.size, i.bytes)) = some (some (.agg #[.int .i64 0, .int .i64 0]), 2, 16) := by kernel_rfl
theorem refWay_at (a b c d : Int) (n : Nat) (w : World) (h1 : a < b) (h2 : c < d) (hn : Sp.way a b c d = n) : Calls Tryd.prog 30 #[.agg #[.int .i64 a, .int .i64 b], .agg #[.int .i64 c, .int .i64 d]] w (RetW n w) := by
  rw [← hn]; exact refWay_any a b c d w h1 h2
theorem refWay_L (i j : Nat) (w : World) : Calls Tryd.prog 30 #[.agg #[.int .i64 (lo i : Int), .int .i64 (hi i : Int)], .agg #[.int .i64 (lo j : Int), .int .i64 (hi j : Int)]] w (RetW (wayL i j) w) :=
  refWay_any _ _ _ _ w (by have := (lohi i).1; omega) (by have := (lohi j).1; omega)
theorem refWay_Q (i j : Nat) (w : World) : Calls Tryd.prog 30 #[.agg #[.int .i64 (lo i : Int), .int .i64 (hi i : Int)], .agg #[.int .i64 (lo j : Int), .int .i64 (hi j : Int)]] w fun e w' => e = .returned (.int .i64 (wayL i j : Int)) ∧ Below w.heap.size w w' := refWay_L i j w
/-- The table under way. -/
def TRel (w : World) (g I J K : Nat) (wr : World) : Prop := (∃ f, Tbl wr (w.heap.size + 1) f ∧ TabB I J K f) ∧ Tbl wr w.heap.size (fun _ => 0) ∧ Pairs wr g ∧ Below w.heap.size w wr ∧ w.heap.size + 2 ≤ g
theorem TRel.alloc {w : World} {g I J K : Nat} {wr : World} (h : TRel w g I J K wr) (o : Obj) : TRel w g I J K (wr.alloc o) := by
  obtain ⟨⟨f, h1, h2⟩, h3, h4, h5, h6⟩ := h
  exact ⟨⟨f, h1.alloc o, h2⟩, h3.alloc o, h4.alloc o, h5.alloc h5.size o, h6⟩
theorem TRel.row {w : World} {g I J : Nat} {wr : World} (h : TRel w g I J 15 wr) : TRel w g I (J + 1) 0 wr := by
  obtain ⟨⟨f, h1, h2⟩, h3⟩ := h
  exact ⟨⟨f, h1, h2.row⟩, h3⟩
theorem TRel.sheet {w : World} {g I : Nat} {wr : World} (h : TRel w g I 15 0 wr) : TRel w g (I + 1) 0 0 wr := by
  obtain ⟨⟨f, h1, h2⟩, h3⟩ := h
  exact ⟨⟨f, h1, h2.sheet⟩, h3⟩
set_option maxRecDepth 100000 in
theorem zero_cells2 (i : Nat) (hi : i < 169) : Tryd.zeroCells62[i]? = some (.int .i64 0) := by
  have h : (List.range 169).all (fun i => match Tryd.zeroCells62[i]? with | some (.int .i64 0) => true | _ => false) = true := by kernel_rfl
  have := List.all_eq_true.1 h i (List.mem_range.2 hi)
  revert this
  split
  · intro _; assumption
  · intro h; cases h
theorem Tbl.zero (w : World) : Tbl (w.alloc (.cells Tryd.zeroCells62 62)) w.heap.size (fun _ => 0) :=
  ⟨by simp, fun i hi => by rw [World.cell?_alloc_at _ _ _ _ (by simp)]; exact zero_cells2 i hi, fun i => by simp⟩
theorem Tbl.below {w w' : World} {B C : Nat} {f : Nat → Nat} (h : Tbl w B f) (hb : Below C w w') (hB : B < C) : Tbl w' B f :=
  ⟨Nat.lt_of_lt_of_le h.1 hb.size, fun i hi => (hb.cell (p := ⟨B, i, none⟩) hB).trans (h.2.1 i hi), fun i => (hb.frozen (p := ⟨B, i, none⟩) hB).trans (h.2.2 i)⟩
theorem TRel.start {w : World} {g : Nat} {wr : World} (hP : Pairs wr g) (hg : w.heap.size + 2 ≤ g) (hB : Below (w.heap.size + 2) ((w.alloc (.cells Tryd.zeroCells62 62)).alloc (.cells Tryd.zeroCells62 62)) wr) : TRel w g 0 0 0 wr := by
  have h1 := Tbl.zero (w.alloc (.cells Tryd.zeroCells62 62))
  simp only [World.size_alloc] at h1
  refine ⟨⟨fun _ => 0, h1.below hB (by omega), TabB.none fun _ => rfl⟩, ((Tbl.zero w).alloc _).below hB (by omega), hP, ?_, hg⟩
  exact (((Below.refl _ _).alloc (Nat.le_refl _) _).alloc (by simp) _).trans (hB.mono (by omega))
/-- What a round of the table leans on. -/
def TT (w : World) (g A B C I J K : Nat) (f : Nat → Nat) (wr : World) : Prop := Tbl wr (w.heap.size + 1) f ∧ Tbl wr w.heap.size (fun _ => 0) ∧ Pairs wr g ∧ Two wr A (lo I) (hi I) ∧ Two wr B (lo J) (hi J) ∧ Two wr C (lo K) (hi K) ∧ Below w.heap.size w wr
theorem TT.call {w : World} {g A B C I J K : Nat} {f : Nat → Nat} {wr w' : World} (h : TT w g A B C I J K f wr) (hb : Below wr.heap.size wr w') : TT w g A B C I J K f w' :=
  ⟨h.1.call hb, h.2.1.call hb, h.2.2.1.call hb, h.2.2.2.1.call hb, h.2.2.2.2.1.call hb, h.2.2.2.2.2.1.call hb, h.2.2.2.2.2.2.trans (hb.mono h.2.2.2.2.2.2.size)⟩
theorem TT.drew {w : World} {g A B C I J K : Nat} {f : Nat → Nat} {wr : World} (h : TT w g A B C I J K f wr) : TT w g A B C I J K f wr.drew :=
  ⟨h.1, h.2.1, h.2.2.1, h.2.2.2.1, h.2.2.2.2.1, h.2.2.2.2.2.1, below_drew h.2.2.2.2.2.2⟩
theorem TT.cells {w : World} {g A B C I J K : Nat} {f : Nat → Nat} {wr : World} (h : TT w g A B C I J K f wr) : wr.cell? ⟨A, 0, none⟩ = some (.int .i64 (lo I : Int)) ∧ wr.cell? ⟨A, 1, none⟩ = some (.int .i64 (hi I : Int)) ∧ wr.cell? ⟨B, 0, none⟩ = some (.int .i64 (lo J : Int)) ∧ wr.cell? ⟨B, 1, none⟩ = some (.int .i64 (hi J : Int)) ∧ wr.cell? ⟨C, 0, none⟩ = some (.int .i64 (lo K : Int)) ∧ wr.cell? ⟨C, 1, none⟩ = some (.int .i64 (hi K : Int)) ∧ wr.cell? ⟨w.heap.size + 1, wayL I J * 13 + wayL J K, none⟩ = some (.int .i64 (f (wayL I J * 13 + wayL J K) : Int)) ∧ wr.frozen? ⟨w.heap.size + 1, wayL I J * 13 + wayL J K, none⟩ = false :=
  ⟨h.2.2.2.1.2.1, h.2.2.2.1.2.2, h.2.2.2.2.1.2.1, h.2.2.2.2.1.2.2, h.2.2.2.2.2.1.2.1, h.2.2.2.2.2.1.2.2, h.1.2.1 _ (by have := wayL_lt I J; have := wayL_lt J K; omega), h.1.2.2 _⟩
theorem TRel.step {w : World} {g A B C I J K : Nat} {f : Nat → Nat} {wr : World} (h : TT w g A B C I J K f wr) (hF : TabB I J K f) (hI : I < 15) (hJ : J < 15) (hK : K < 15) (hg : w.heap.size + 2 ≤ g) : TRel w g I J (K + 1) (wr.setCell ⟨w.heap.size + 1, wayL I J * 13 + wayL J K, none⟩ (.int .i64 ((f (wayL I J * 13 + wayL J K) ||| 2 ^ wayL I K : Nat) : Int))) := by
  have h1 := wayL_lt I J
  have h2 := wayL_lt J K
  refine ⟨⟨_, (h.1.set (wayL I J * 13 + wayL J K) _ (by omega)).congr (fun i hi => ?_), hF.step hI hJ hK⟩, ?_, h.2.2.1.set (by show g ≠ w.heap.size + 1; omega) _, h.2.2.2.2.2.2.setCell (by show w.heap.size ≤ w.heap.size + 1; omega) _, hg⟩
  · by_cases e : i = wayL I J * 13 + wayL J K
    · subst e; simp
    · simp [e]
  · have h0 := h.2.1
    refine ⟨by have := h0.1; simpa [World.setCell] using this, fun i hi => ?_, fun i => by rw [World.frozen?_setCell]; exact h0.2.2 i⟩
    rw [World.cell?_setCell_other _ _ _ _ (by intro e; have := congrArg Addr.block e; simp at this)]
    exact h0.2.1 i hi
theorem below_setCells {w wr : World} {B : Nat} (h : Below w.heap.size w wr) (l : List Value) (o : Nat) (hB : w.heap.size ≤ B) : Below w.heap.size w (wr.setCells B o l) := by
  induction l generalizing wr o with
  | nil => exact h
  | cons v r ih => exact ih (h.setCell hB v) (o + 1)
/-- The table as a row of cells. -/
def tabL : List Value := (List.range 169).map fun i => Value.int .i64 (Sp.tab (i / 13) (i % 13) : Int)
theorem tabL_len : tabL.length = 169 := by simp [tabL]
theorem tabL_one : ∀ v ∈ tabL, v.oneCell' = true := by
  intro v hv
  obtain ⟨i, _, rfl⟩ := List.mem_map.1 hv
  rfl
theorem tabL_at (i : Nat) (hi : i < 169) : tabL[i]? = some (.int .i64 (Sp.tab (i / 13) (i % 13) : Int)) := by simp [tabL, hi]
theorem Tbl.range {w : World} {B : Nat} (h : Tbl w B (fun i => Sp.tab (i / 13) (i % 13))) : w.rangeAt B 0 tabL := by
  intro j v hv
  have hj : j < 169 := by rw [← tabL_len]; exact (List.getElem?_eq_some_iff.1 hv).1
  rw [tabL_at j hj] at hv
  rw [Nat.zero_add, h.2.1 j hj, ← hv]
theorem Tbl.there {w : World} {B : Nat} {f : Nat → Nat} (h : Tbl w B f) : w.there B 0 169 := by
  intro j hj
  rw [Nat.zero_add]
  exact ⟨by rw [h.2.1 j hj]; rfl, h.2.2 j⟩
set_option maxRecDepth 100000 in
set_option maxHeartbeats 4000000 in
theorem Table_any (w : World) : Calls Tryd.prog 35 #[] w fun e w' => e = .returned (.agg tabL.toArray) ∧ Below w.heap.size w w' := by
  obtain ⟨i0, hi0, hz0, hz1, hz2⟩ := info_parts span_info
  go_enter Tryd.func35, Tryd.ntmps35
  go_wp2_with fail
  go_loopw [2, 3] (fun v c wr => ∃ a : Nat, c = .int .i64 (a : Int) ∧ a ≤ 6 ∧ wr.ownsRow (w.heap.size + 2) 23 2 v (posL a (a + 1)) (rowV (posL a (a + 1))) ∧ Below (w.heap.size + 2) ((w.alloc (.cells Tryd.zeroCells62 62)).alloc (.cells Tryd.zeroCells62 62)) wr) (fun _ c _ => 6 - (intOf c).toNat)
  case atStart => exact ⟨0, rfl, by omega, World.ownsRow_nil _ _ _ _, Below.refl _ _⟩
  case round =>
    obtain ⟨a, rfl, ha, hown, hB⟩ := hrel
    have HOWN := Lib.hid hown
    have HB := Lib.hid hB
    clear hown hB
    by_cases hlt : a < 6
    · have hFd : decide ((a : Int) < 6) = true := by simp; omega
      go_wp2_with fail
      go_loopw [2, 4] (fun v c wi => ∃ b : Nat, c = .int .i64 (b : Int) ∧ a < b ∧ b ≤ 6 ∧ Hid (wi.ownsRow (w.heap.size + 2) 23 2 v (posL a b) (rowV (posL a b))) ∧ Hid (Below (w.heap.size + 2) ((w.alloc (.cells Tryd.zeroCells62 62)).alloc (.cells Tryd.zeroCells62 62)) wi)) (fun _ c _ => 6 - (intOf c).toNat)
      case atStart => exact ⟨a + 1, by go_num, by omega, by omega, HOWN, HB⟩
      case round =>
        clear HOWN HB
        obtain ⟨b, rfl, hab, hb6, HOWN, HB⟩ := hrel
        by_cases hlt2 : b < 6
        · have hbz := HB.out.size
          simp only [World.size_alloc] at hbz
          have hpos := (pos_in a b hab hlt2).1
          go_wp2_with (at_builtin; refine wpList_append_own _ rfl _ _ 31 rfl (w.heap.size + 2) 23 i0 (.agg #[.int .i64 0, .int .i64 0]) 2 16 Tryd.underlying31 hi0 hz0 hz1 hz2 rfl (by decide) _ _ _ rfl (HOWN.out.alloc _) ⟨wr.heap.size, 0, none⟩ 1 1 [.int .i64 (a : Int), .int .i64 (b : Int)] rfl rfl (cells_here wr _ _) (by simp [Value.oneCell']) (by unfold maxLen; omega) (by omega) (by simp; omega) ?_; intro v' w1 hown1 hgrow _)
          have hg2 : (wr.alloc (.cells #[.int .i64 (a : Int), .int .i64 (b : Int)] 23)).grownBy w1 u2.ownBlock := hgrow
          have hB2 := (HB.out.alloc (by omega) (.cells #[.int .i64 (a : Int), .int .i64 (b : Int)] 23)).grown hg2 (by simp; omega) (fun k hk => (HOWN.out.lt k hk).1)
          have ho := hown1
          rw [row_step a b hab hlt2, ← (pos_in a b hab hlt2).2.2] at ho
          exact ⟨⟨b + 1, by go_num, by omega, by omega, Lib.hid ho, Lib.hid hB2⟩, by simp [intOf]; omega⟩
        · obtain rfl : b = 6 := by omega
          have hpr := pos_row a hlt
          rw [hpr] at HOWN
          clear hpr
          go_wp2_with fail
          go_roundw
          case rel => exact ⟨a + 1, by go_num, by omega, HOWN.out, HB.out⟩
          case measure => simp [intOf]; omega
    · obtain rfl : a = 6 := by omega
      obtain ⟨g, cap, rfl, hg, hP⟩ := Pairs.own (HOWN.out : wr.ownsRow _ _ 2 _ 15 (rowV 15))
      have HP := Lib.hid hP; clear hP
      have hB0 := HB.out
      have h0 : TRel w g 0 0 0 wr := TRel.start HP.out hg hB0
      clear hB0
      have H0 := Lib.hid h0; clear h0 HOWN HB HP
      obtain ⟨wo, rfl⟩ : ∃ wo : World, wo = wr := ⟨_, rfl⟩
      go_wp2_with fail
      go_loopw [29] (fun c wr => ∃ I : Nat, c = .int .i64 (I : Int) ∧ I ≤ 15 ∧ Hid (TRel w g I 0 0 wr)) (fun c _ => 15 - (intOf c).toNat)
      case atStart => exact ⟨0, rfl, by omega, H0⟩
      case round =>
        clear H0
        obtain ⟨I, rfl, hI, HR⟩ := hrel
        obtain ⟨wA, rfl⟩ : ∃ wo : World, wo = wr := ⟨_, rfl⟩
        by_cases hI2 : I < 15
        · have hFd : decide ((I : Int) < 15) = true := by simp; omega
          have hA0 := (HR.out.2.2.1.2 I hI2).1
          have hA1 := (HR.out.2.2.1.2 I hI2).2
          have hgs := HR.out.2.2.1.1
          have hT1 : w.heap.size + 1 < wA.heap.size := by obtain ⟨f, hf, _⟩ := HR.out.1; exact hf.1
          go_wp2_with fail
          have HR1 := Lib.hid (HR.out.alloc (.cells #[.int .i64 (lo I : Int), .int .i64 (hi I : Int)] 23))
          have HA1 := Lib.hid (Two.new wA (lo I : Int) (hi I : Int) 23)
          clear hA0 hA1
          go_loopw [35] (fun c wr => ∃ J : Nat, c = .int .i64 (J : Int) ∧ J ≤ 15 ∧ Hid (TRel w g I J 0 wr) ∧ Hid (Two wr wA.heap.size (lo I) (hi I))) (fun c _ => 15 - (intOf c).toNat)
          case atStart => exact ⟨0, rfl, by omega, HR1, HA1⟩
          case round =>
            clear HR1 HA1
            obtain ⟨J, rfl, hJ, HR1, HA1⟩ := hrel
            obtain ⟨wB, rfl⟩ : ∃ wo : World, wo = wr := ⟨_, rfl⟩
            by_cases hJ2 : J < 15
            · have hFd2 : decide ((J : Int) < 15) = true := by simp; omega
              have hA0 := (HR1.out.2.2.1.2 J hJ2).1
              have hA1 := (HR1.out.2.2.1.2 J hJ2).2
              have hgs1 := HR1.out.2.2.1.1
              have hT2 : w.heap.size + 1 < wB.heap.size := by obtain ⟨f, hf, _⟩ := HR1.out.1; exact hf.1
              go_wp2_with fail
              have HR2 := Lib.hid (HR1.out.alloc (.cells #[.int .i64 (lo J : Int), .int .i64 (hi J : Int)] 23))
              have HA2 := Lib.hid (HA1.out.alloc (.cells #[.int .i64 (lo J : Int), .int .i64 (hi J : Int)] 23))
              have HB2 := Lib.hid (Two.new wB (lo J : Int) (hi J : Int) 23)
              have hAB := HA1.out.1
              clear hA0 hA1
              go_loopw [41] (fun c wr => ∃ K : Nat, c = .int .i64 (K : Int) ∧ K ≤ 15 ∧ Hid (TRel w g I J K wr) ∧ Hid (Two wr wA.heap.size (lo I) (hi I)) ∧ Hid (Two wr wB.heap.size (lo J) (hi J))) (fun c _ => 15 - (intOf c).toNat)
              case atStart => exact ⟨0, rfl, by omega, HR2, HA2, HB2⟩
              case round =>
                clear HR2 HA2 HB2
                obtain ⟨K, rfl, hK, HR2, HA2, HB2⟩ := hrel
                obtain ⟨wC, rfl⟩ : ∃ wo : World, wo = wr := ⟨_, rfl⟩
                by_cases hK2 : K < 15
                · have hA0 := (HR2.out.2.2.1.2 K hK2).1
                  have hA1 := (HR2.out.2.2.1.2 K hK2).2
                  have hgs2 := HR2.out.2.2.1.1
                  have hT3 : w.heap.size + 1 < wC.heap.size := by obtain ⟨f, hf, _⟩ := HR2.out.1; exact hf.1
                  have hgw := hg
                  have hBB := HB2.out.1
                  have hAA := HA2.out.1
                  go_wp2_with fail
                  obtain ⟨f, hf, hF⟩ := (HR2.out.alloc (.cells #[.int .i64 (lo K : Int), .int .i64 (hi K : Int)] 23)).1
                  have HX : TT w g wA.heap.size wB.heap.size wC.heap.size I J K f (wC.alloc (.cells #[.int .i64 (lo K : Int), .int .i64 (hi K : Int)] 23)) := ⟨hf, (HR2.out.alloc _).2.1, (HR2.out.alloc _).2.2.1, HA2.out.alloc _, HB2.out.alloc _, Two.new wC _ _ _, (HR2.out.alloc _).2.2.2.1⟩
                  have HF := Lib.hid hF
                  clear hf hF hA0 hA1
                  have x0 : (0 : Int) ≤ (wayL I J : Int) := by omega
                  have x1 : (wayL I J : Int) < 13 := by have := wayL_lt I J; omega
                  have y0 : (0 : Int) ≤ (wayL J K : Int) := by omega
                  have y1 : (wayL J K : Int) < 13 := by have := wayL_lt J K; omega
                  have z0 : wayL I K < 13 := wayL_lt I K
                  obtain ⟨c1, c2, c3, c4, c5, c6, c7, c8⟩ := HX.cells
                  have r1 := cell_regrown c1
                  have r2 := cell_regrown c2
                  have r3 := cell_regrown c3
                  have r4 := cell_regrown c4
                  have r5 := cell_regrown c5
                  have r6 := cell_regrown c6
                  have r7 := cell_regrown c7
                  clear c1 c2 c3 c4 c5 c6 c7 c8
                  have HXX := Lib.hid HX
                  clear HX
                  refine wp_region_below_tail 17 (by kernel_rfl) (by kernel_rfl) ?_
                  simp only [List.take_succ_cons, List.take_zero, List.drop_succ_cons, List.drop_zero]
                  repeat (go_big_quiet_step ((go_at_call 30; exact Calls.regrown_of (by first | with_reducible exact refWay_Q I J _ | with_reducible exact refWay_Q J K _ | with_reducible exact refWay_Q I K _))))
                  refine wpQuiet_nil ?_
                  intro w1 hb1
                  have HX1 := HXX.out.call hb1
                  obtain ⟨_, _, _, _, _, _, d0, d1⟩ := HX1.cells
                  have HB1 := Lib.hid HX1
                  clear HX1 r1 r2 r3 r4 r5 r6 r7
                  go_wp2_with fail
                  go_roundw
                  case rel =>
                    have hbf := (HF.out (wayL I J) (wayL J K) (wayL_lt _ _) (wayL_lt _ _)).1
                    refine ⟨K + 1, by go_num, by omega, ?_, Lib.hid (HB1.out.2.2.2.1.set (by show wA.heap.size ≠ w.heap.size + 1; omega) _), Lib.hid (HB1.out.2.2.2.2.1.set (by show wB.heap.size ≠ w.heap.size + 1; omega) _)⟩
                    rw [wrap_pow z0, (set_add _ _ hbf z0).1]
                    exact Lib.hid (TRel.step HB1.out HF.out hI2 hJ2 hK2 hgw)
                  case measure => simp [intOf]; omega
                · obtain rfl : K = 15 := by omega
                  go_wp2_with fail
                  go_roundw
                  case rel => exact ⟨J + 1, by go_num, by omega, Lib.hid HR2.out.row, HA2⟩
                  case measure => simp [intOf]; omega
            · obtain rfl : J = 15 := by omega
              go_wp2_with fail
              go_roundw
              case rel => exact ⟨I + 1, by go_num, by omega, Lib.hid HR1.out.sheet⟩
              case measure => simp [intOf]; omega
        · obtain rfl : I = 15 := by omega
          have hR := HR.out
          obtain ⟨⟨f, hf, hF⟩, hz, hP, hB, hg⟩ := hR
          have hrange := (hf.congr fun i hi => by have h := tab_full (hF (i / 13) (i % 13) (by omega) (by omega)) (by omega) (by omega); rwa [show i / 13 * 13 + i % 13 = i by omega] at h).range
          have hthere := hz.there
          have hi62 : (Tryd.prog.info? 62).map (·.size) = some tabL.length := by rw [tabL_len]; kernel_rfl
          have hi62' : (Tryd.prog.info? 62).map (·.size) = some tabL.toArray.size := by rw [List.size_toArray]; exact hi62
          have hB' := Lib.hid hB
          clear hf hF hz hP hB
          have hst := run_storeCells_cells (P := Tryd.prog) w.heap.size 0 tabL 0 wA (fun j hj => (hthere j (by rw [tabL_len] at hj; exact hj)).1) (fun j hj => (hthere j (by rw [tabL_len] at hj; exact hj)).2) tabL_one
          simp only [Nat.add_zero] at hst
          go_wp2_with (refine wpList_load_mid rfl 62 (.tmp 1) rfl (w.heap.size + 1) 0 rfl tabL _ hrange Tryd.underlying62 rfl hi62 ?_)
          have hr2 := World.rangeAt_setCells_same wA w.heap.size 0 tabL (by rw [tabL_len]; exact hthere)
          refine bodyPost_ret (v := .agg tabL.toArray) ?_ rfl ⟨rfl, ?_⟩
          · have hl := run_loadVar_mid (P := Tryd.prog) (wA.setCells w.heap.size 0 tabL) w.heap.size 0 62 tabL _ hr2 Tryd.underlying62 rfl hi62
            simp [results, Tryd.results35, asAddr, hl]
          · exact below_setCells hB'.out tabL 0 (Nat.le_refl _)
end Go.Proofs.YtpmppgmnnnlonaaDoor
