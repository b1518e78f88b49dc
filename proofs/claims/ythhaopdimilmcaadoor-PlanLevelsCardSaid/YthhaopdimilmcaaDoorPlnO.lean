/- The program's Path: the walk. -/
import Derived.Test.YthhaopdimilmcaaDoorPlnN
namespace Go.Proofs.YthhaopdimilmcaaDoor
open Go.RowKit
theorem PCl.set {oa : Option Addr} {n cap B X1 X4 X6 a : Nat} {s t : Nat → Int} {w : World} (h : PCl oa n cap B X1 X4 X6 a s t w) (h1 : X1 ≠ X6) (h4 : X4 ≠ X6) (hB : B ≠ X6) (z : Nat) : PCl oa n cap B X1 X4 X6 z s t (w.setCell ⟨X6, 0, none⟩ (.int .i64 (z : Int))) := by
  obtain ⟨g1, g2, ⟨g3, g4⟩, g5⟩ := h
  have far : ∀ Y o, Y ≠ X6 → (w.setCell ⟨X6, 0, none⟩ (.int .i64 (z : Int))).cell? ⟨Y, o, none⟩ = w.cell? ⟨Y, o, none⟩ := fun Y o hne => World.cell?_setCell_other _ _ _ _ (by intro e; exact hne (congrArg Addr.block e).symm)
  exact ⟨by rw [far _ _ h1]; exact g1, by rw [far _ _ h4]; exact g2, ⟨World.cell?_setCell_same _ _ _ g3, by rw [World.frozen?_setCell]; exact g4⟩, by have := g5.1; simpa [World.setCell] using this, fun j hj => ⟨⟨by rw [far _ _ hB]; exact (g5.2 j hj).1.1, by rw [World.frozen?_setCell]; exact (g5.2 j hj).1.2⟩, by rw [far _ _ hB]; exact (g5.2 j hj).2.1, by rw [World.frozen?_setCell]; exact (g5.2 j hj).2.2⟩⟩
theorem own_one (w : World) (v : Value) (t : TypeId) : (w.alloc (.cells #[v] t)).ownsRow w.heap.size t 1 (.slice (some ⟨w.heap.size, 0, none⟩) 1 1) 1 [v] :=
  ⟨rfl, .inr ⟨w.heap.size, 1, #[v], rfl, Nat.le_refl _, by show (w.heap.push _)[w.heap.size]? = _; simp, Nat.le_refl _, by simp [maxLen], rfl, rfl⟩⟩
theorem PCl.below {oa : Option Addr} {n cap B X1 X4 X6 a C : Nat} {s t : Nat → Int} {w w' : World} (h : PCl oa n cap B X1 X4 X6 a s t w) (hb : Below C w w') (h1 : X1 < C) (h4 : X4 < C) (h6 : X6 < C) (hB : B < C) : PCl oa n cap B X1 X4 X6 a s t w' := by
  obtain ⟨g1, g2, ⟨g3, g4⟩, g5⟩ := h
  exact ⟨(hb.cell (p := ⟨X1, 0, none⟩) h1).trans g1, (hb.cell (p := ⟨X4, 0, none⟩) h4).trans g2, ⟨(hb.cell (p := ⟨X6, 0, none⟩) h6).trans g3, (hb.frozen (p := ⟨X6, 0, none⟩) h6).trans g4⟩, Nat.lt_of_lt_of_le g5.1 hb.size, fun j hj => ⟨⟨(hb.cell (p := ⟨B, j * 2, none⟩) hB).trans (g5.2 j hj).1.1, (hb.frozen (p := ⟨B, j * 2, none⟩) hB).trans (g5.2 j hj).1.2⟩, (hb.cell (p := ⟨B, j * 2 + 1, none⟩) hB).trans (g5.2 j hj).2.1, (hb.frozen (p := ⟨B, j * 2 + 1, none⟩) hB).trans (g5.2 j hj).2.2⟩⟩
set_option maxRecDepth 100000 in
set_option maxHeartbeats 8000000 in
theorem path_any (oa : Option Addr) (cap : Nat) (AL AU : Nat → Option Addr) (CL CU : Nat → Nat) (T : Plan) (w : World) (hn : T.n ≤ 9223372036854775807) (hlc : ∀ i, i < T.n → T.lc i ≤ 9223372036854775807 ∧ T.uc i ≤ 9223372036854775807) (hR : PlanR w oa AL AU CL CU T) :
    Calls Tryd.prog 32 #[.slice oa T.n cap] w (PathR T w) := by
  have hearly := early_any oa cap AL AU CL CU T (w.alloc (.cells #[.slice oa T.n cap] 22)) hn hlc (hR.alloc _)
  have HR := Lib.hid hR
  clear hR hn hlc
  obtain ⟨n, hnn⟩ : ∃ x, T.n = x := ⟨_, rfl⟩
  have HNN := Lib.hid hnn
  rw [hnn] at hearly ⊢
  clear hnn
  go_enter Tryd.func32, Tryd.ntmps32
  go_wp2_with fail
  refine hearly.mono ?_
  clear hearly
  rintro e w1 ⟨hb1, (⟨hc, rfl⟩ | ⟨hc, B, s, rfl, hB, hO, hF, hbd⟩)⟩
  · have HB1 := Lib.hid ((Below.alloc (Below.refl w.heap.size w) (Nat.le_refl _) (.cells #[.slice oa n cap] 22)).trans (hb1.mono (by simp)))
    have HC := Lib.hid hc
    have HV := Lib.hid (chk_pos hc)
    have hz1 := HB1.out.size
    have HB2 := Lib.hid (HB1.out.alloc hz1 (.cells #[.slice none 0 0] 24))
    clear hb1 hc
    rw [HV.out]
    go_wp2_with fail
    go_ret2
    exact ⟨HB2.out, .inl ⟨HC.out, by rw [HV.out]; rfl⟩⟩
  · have HB1 := Lib.hid ((Below.alloc (Below.refl w.heap.size w) (Nat.le_refl _) (.cells #[.slice oa n cap] 22)).trans (hb1.mono (by simp)))
    have HC := Lib.hid hc
    have HOK := Lib.hid (Plan.chk_ok hc)
    have HF := Lib.hid hF
    have HD := Lib.hid hbd
    have hn6 : n ≤ 60 := by rw [← HNN.out]; exact HOK.out.size
    have hx1 : w1.cell? ⟨w.heap.size, 0, none⟩ = some (.slice oa n cap) := (hb1.cell (p := ⟨w.heap.size, 0, none⟩) (by simp)).trans (by simp)
    rw [HNN.out] at hO ⊢
    have HO := Lib.hid hO
    have hB2 : w.heap.size < B := by have := hB; simp at this; omega
    have hBl := hO.1
    have hz1 := hb1.size
    simp only [World.size_alloc] at hz1
    have HX1 := Lib.hid hx1
    clear hb1 hc hF hbd hO hB
    by_cases h0 : n = 0
    · subst h0
      have HB2 := Lib.hid (HB1.out.alloc HB1.out.size (.cells #[.slice (some ⟨B, 0, none⟩) 0 0] 24))
      have hx2 : (w1.alloc (.cells #[.slice (some ⟨B, 0, none⟩) 0 0] 24)).cell? ⟨w.heap.size, 0, none⟩ = some (.slice oa 0 cap) := (World.cell?_alloc_lt w1 _ ⟨w.heap.size, 0, none⟩ (by show w.heap.size < _; omega)).trans HX1.out
      clear hx1
      go_wp2_with fail
      go_ret2
      exact ⟨HB2.out, .inr ⟨HC.out, s, HF.out, HD.out, .inl ⟨HNN.out, rfl⟩⟩⟩
    · have hnb : ((n : Int) == 0) = false := by simp; omega
      obtain ⟨o, hTo, hol⟩ := HOK.out.full
      have HTO := Lib.hid (And.intro hTo hol)
      have HP0 := Lib.hid (show PCl oa n cap B w.heap.size w1.heap.size (w1.heap.size + 1) 0 s (fun i => s i + T.len i) ((w1.alloc (.cells #[.slice (some ⟨B, 0, none⟩) n n] 24)).alloc (.cells #[.int .i64 0] 3)) from
        ⟨(World.cell?_alloc_lt _ _ ⟨w.heap.size, 0, none⟩ (by simp; omega)).trans ((World.cell?_alloc_lt w1 _ ⟨w.heap.size, 0, none⟩ (by show w.heap.size < _; omega)).trans HX1.out), by simp, by simp, (HO.out.alloc _).alloc _⟩)
      have HB3 := Lib.hid ((HB1.out.alloc HB1.out.size (.cells #[.slice (some ⟨B, 0, none⟩) n n] 24)).alloc (by have := HB1.out.size; simp; omega) (.cells #[.int .i64 0] 3))
      have hx2 : (w1.alloc (.cells #[.slice (some ⟨B, 0, none⟩) n n] 24)).cell? ⟨w.heap.size, 0, none⟩ = some (.slice oa n cap) := (World.cell?_alloc_lt w1 _ ⟨w.heap.size, 0, none⟩ (by show w.heap.size < _; omega)).trans HX1.out
      clear hTo hol hx1
      go_wp2_with fail
      clear hx2
      go_loopw [25] (fun c wr => ∃ k : Nat, c = .int .i64 (k : Int) ∧ k ≤ n ∧ Hid (PCl oa n cap B w.heap.size w1.heap.size (w1.heap.size + 1) (Plan.amx T s k) s (fun i => s i + T.len i) wr) ∧ Hid (Below w.heap.size w wr)) (fun c _ => n - (intOf c).toNat)
      case atStart => exact ⟨0, rfl, by omega, HP0, HB3⟩
      case round =>
        clear HP0 HB3
        obtain ⟨k, rfl, hk, HP, HW⟩ := hrel
        obtain ⟨wA, rfl⟩ : ∃ wo : World, wo = wr := ⟨_, rfl⟩
        have ha := Plan.amx_lt (T := T) (s := s) (by rw [HNN.out]; omega) k (by rw [HNN.out]; exact hk)
        rw [HNN.out] at ha
        obtain ⟨p1, p4, ⟨p6, f6⟩, pO⟩ := HP.out
        by_cases hkn : k < n
        · have ca := (pO.2 _ ha).2.1
          have ck := (pO.2 k hkn).2.1
          have hstep : Plan.amx T s (k + 1) = if s (Plan.amx T s k) + T.len (Plan.amx T s k) < s k + T.len k then k else Plan.amx T s k := rfl
          obtain ⟨A, hA⟩ : ∃ x, Plan.amx T s k = x := ⟨_, rfl⟩
          have HPA := HP.out
          rw [hA] at ha ca hstep p6 HPA
          obtain ⟨TA, hTA⟩ : ∃ x, s A + T.len A = x := ⟨_, rfl⟩
          obtain ⟨TK, hTK⟩ : ∃ x, s k + T.len k = x := ⟨_, rfl⟩
          simp only [hTA] at ca hstep
          simp only [hTK] at ck hstep
          have HST := Lib.hid hstep
          have HPB := Lib.hid HPA
          have r1 := cell_regrown p4
          have r2 := cell_regrown p6
          have r3 := cell_regrown ca
          have r4 := cell_regrown ck
          have a1 : (0 : Int) ≤ (A : Int) := by omega
          have a2 : (A : Int) < (n : Int) := by omega
          have k1 : (0 : Int) ≤ (k : Int) := by omega
          have k2 : (k : Int) < (n : Int) := by omega
          clear hA hTA hTK hstep HPA p1 p4 p6 f6 pO ca ck
          by_cases hlt : TA < TK
          · have hd : decide (TA < TK) = true := decide_eq_true hlt
            go_wp2_with fail
            refine wp_region_below (by kernel_rfl) (by kernel_rfl) ?_
            repeat (go_big_quiet_step (fail))
            refine wpQuiet_nil ?_
            intro w2 hb2
            have HP2 := Lib.hid (HPB.out.call hb2)
            have HW2 := Lib.hid (thenB HW.out hb2)
            obtain ⟨_, _, ⟨p6, f6⟩, _⟩ := HP2.out
            have HP3 := Lib.hid (HP2.out.set (by omega) (by omega) (by omega) k)
            have HW3 := Lib.hid (HW2.out.setCell (p := ⟨w1.heap.size + 1, 0, none⟩) (by show w.heap.size ≤ w1.heap.size + 1; omega) (.int .i64 (k : Int)))
            clear hb2 r1 r2 r3 r4
            go_wp2_with fail
            go_roundw
            case rel => exact ⟨k + 1, by go_num, by omega, by rw [HST.out, if_pos hlt]; exact HP3, HW3⟩
            case measure => simp [intOf]; omega
          · have hd : decide (TA < TK) = false := decide_eq_false hlt
            go_wp2_with fail
            refine wp_region_below (by kernel_rfl) (by kernel_rfl) ?_
            repeat (go_big_quiet_step (fail))
            refine wpQuiet_nil ?_
            intro w2 hb2
            have HP2 := Lib.hid (HPB.out.call hb2)
            have HW2 := Lib.hid (thenB HW.out hb2)
            clear hb2 r1 r2 r3 r4
            go_wp2_with fail
            go_roundw
            case rel => exact ⟨k + 1, by go_num, by omega, by rw [HST.out, if_neg (show ¬ TA < TK by omega)]; exact HP2, HW2⟩
            case measure => simp [intOf]; omega
        · obtain rfl : n = k := by omega
          have hst : PaSt T w oa n cap B w.heap.size w1.heap.size (w1.heap.size + 1) wA.heap.size s o (.slice (some ⟨wA.heap.size, 0, none⟩) 1 1) [Plan.amx T s n] (wA.alloc (.cells #[.int .i64 (Plan.amx T s n : Int)] 3)) := by
            have h1 := HTO.out.1.full HTO.out.2 (show Plan.amx T s n < T.n by rw [HNN.out]; exact ha)
            have h2 := Plan.pos_lt h1
            rw [HTO.out.2, HNN.out] at h2
            exact ⟨HP.out.call (Below.alloc (Below.refl _ _) (Nat.le_refl _) _), own_one _ _ _, Plan.Chain.start s (by rw [HNN.out]; exact ha), by rw [HNN.out]; rfl, by show Plan.pos o (Plan.amx T s n) + 1 ≤ n; omega, HW.out.alloc HW.out.size _⟩
          have HST := Lib.hid hst
          have hwz := HW.out.size
          have hsz1 := World.block_lt_of_cell? _ _ p6
          simp only at hsz1
          clear hst p1 p4 f6 pO
          go_wp2_with fail
          clear p6
          clear HP HW
          obtain ⟨i0, hi0, hz0, hz1', hz2⟩ := info_parts int_info
          go_loopw [8] (fun v wr => ∃ (ob : Option Addr) (m c2 : Nat) (out : List Nat), v = .slice ob m c2 ∧ 0 < m ∧ m ≤ n ∧ Hid (out.length = m) ∧ Hid (PaSt T w oa n cap B w.heap.size w1.heap.size (w1.heap.size + 1) wA.heap.size s o (.slice ob m c2) out wr) ∧ Hid (wA.heap.size ≤ wr.heap.size)) (fun v _ => n - slen v)
          case atStart => exact ⟨_, 1, 1, _, rfl, by omega, by omega, Lib.hid rfl, HST, Lib.hid (by simp)⟩
          case round =>
            clear HST
            obtain ⟨ob, m, c2, out, rfl, hm0, hm, HM, HP, HLB⟩ := hrel
            obtain ⟨wB, rfl⟩ : ∃ wo : World, wo = wr := ⟨_, rfl⟩
            have hA := HP.out.2.2.1.lt (j := out.length - 1) (by have := HM.out; omega)
            have HPC := HP.out.1
            have hpos := HP.out.2.2.2.2.1
            rw [HM.out] at hA HPC hpos
            obtain ⟨A, hAE⟩ : ∃ x, out.getD (m - 1) 0 = x := ⟨_, rfl⟩
            rw [hAE] at hA HPC hpos
            have HAE := Lib.hid hAE
            have HAT := Lib.hid hA
            have ha : A < n := by rw [← HNN.out]; exact hA
            have HPCL := Lib.hid HPC
            have HRB := Lib.hid (HR.out.call HP.out.2.2.2.2.2)
            obtain ⟨a, rfl⟩ := HRB.out.1 (by rw [HNN.out]; omega)
            obtain ⟨_, c1, c2', _⟩ := HRB.out.at HAT.out
            have HLK := Lib.hid (HRB.out.links HAT.out)
            have hlcb := (HOK.out.task A HAT.out).head.2.2.1
            obtain ⟨Nb, hNb⟩ : ∃ x, T.nb A = x := ⟨_, rfl⟩
            obtain ⟨lc, hlcE⟩ : ∃ x, T.lc A = x := ⟨_, rfl⟩
            obtain ⟨al, hal⟩ : ∃ x, AL A = x := ⟨_, rfl⟩
            obtain ⟨cl, hcl⟩ : ∃ x, CL A = x := ⟨_, rfl⟩
            rw [hNb] at c1
            rw [hal, hlcE, hcl] at c2'
            rw [hlcE] at hlcb
            have hlk := HLK.out
            rw [hal, hlcE] at hlk
            have HLK2 := Lib.hid hlk
            have HE := Lib.hid (And.intro hNb (And.intro hlcE (And.intro hal hcl)))
            obtain ⟨p1, p4, ⟨p6, f6⟩, pO⟩ := HPC
            have a1 : (0 : Int) ≤ (A : Int) := by omega
            have a2 : (A : Int) < (n : Int) := by omega
            have hql : ∀ k, k < lc → ∀ w', Below wB.heap.size wB w' → Calls Tryd.prog 45 (#[.agg #[.int .i64 (T.lt A k), .int .i64 (T.lk A k), .int .i64 (T.lg A k)]] ++ #[.pointer (some ⟨w1.heap.size, 0, none⟩), .pointer (some ⟨w.heap.size, 0, none⟩), .pointer (some ⟨w1.heap.size + 1, 0, none⟩)]) w' fun e w2 => e = .returned (.bool (decide (s (T.to A k) + T.wait A k = s A))) ∧ Below w'.heap.size w' w2 := fun k hk w' hb' =>
              path1_any (some a) cap AL AU CL CU T n B w.heap.size w1.heap.size (w1.heap.size + 1) A k s (fun i => s i + T.len i) w' HNN.out HOK.out HD.out HAT.out (by rw [hlcE]; exact hk) (HRB.out.call hb') (HPCL.out.call hb')
            have HQL := Lib.hid hql
            clear hA hAE hNb hlcE hal hcl hlk pO f6 hql
            go_wp2_with (go_at_call 44; refine (linkIndex_any al lc cl (T.lt A) (T.lk A) (T.lg A) 45 #[.pointer (some ⟨w1.heap.size, 0, none⟩), .pointer (some ⟨w.heap.size, 0, none⟩), .pointer (some ⟨w1.heap.size + 1, 0, none⟩)] (fun k => decide (s (T.to A k) + T.wait A k = s A)) wB (by omega) HLK2.out enter_path1 HQL.out).mono ?_; rintro e w2 ⟨idx, rfl, hidx, hb2⟩; have HIDX := Lib.hid hidx; have HP2 := Lib.hid (HP.out.call hb2); have HPC2 := Lib.hid (HPCL.out.call hb2); have HLB2 := Lib.hid (Nat.le_trans HLB.out hb2.size); clear hb2 hidx)
            clear p1 p4 p6 c1 c2'
            obtain ⟨p1, p4, ⟨p6, f6⟩, pO⟩ := HPC2.out
            obtain ⟨_, c1, _, _⟩ := (HR.out.call HP2.out.2.2.2.2.2).at HAT.out
            rw [HE.out.1] at c1
            have cs := (pO.2 A ha).1.1
            obtain ⟨SA, hSA⟩ : ∃ x, s A = x := ⟨_, rfl⟩
            rw [hSA] at cs
            have HSA := Lib.hid hSA
            have r1 := cell_regrown p1
            have r2 := cell_regrown p4
            have r3 := cell_regrown p6
            have r4 := cell_regrown c1
            have r5 := cell_regrown cs
            clear p1 p4 p6 f6 pO c1 cs hSA
            by_cases hend : SA = Nb
            · have hd : (SA == Nb) = true := by simpa using hend
              have HEND := Lib.hid hend
              clear hend
              refine wp_region_below (by kernel_rfl) (by kernel_rfl) ?_
              repeat (go_big_quiet_step (fail))
              refine wpQuiet_nil ?_
              intro w3 hb3
              have HP3 := Lib.hid (HP2.out.call hb3)
              have HLB3 := Lib.hid (Nat.le_trans HLB2.out hb3.size)
              clear hb3 r1 r2 r3 r4 r5
              go_wp2_with fail
              refine (reverse_ints (by omega) HM.out (IntsL.own HP3.out.2.1)).mono ?_
              rintro e w4 ⟨⟨v4, rfl⟩, hI4, hb4⟩
              have HI4 := Lib.hid hI4
              have HB4 := Lib.hid (HP3.out.2.2.2.2.2.trans (hb4.mono hwz))
              clear hI4 hb4
              go_wp2_with fail
              go_ret2
              exact ⟨HB4.out, .inr ⟨HC.out, s, HF.out, HD.out, .inr ⟨by rw [HNN.out]; omega, _, out, ⟨HP3.out.2.2.1, HP3.out.2.2.2.1, by rw [HM.out, HAE.out, HSA.out, HE.out.1]; exact HEND.out⟩, rfl, HI4.out.low hwz⟩⟩⟩
            · have hd : (SA == Nb) = false := by simpa using hend
              have hne : s A ≠ T.nb A := by rw [HSA.out, HE.out.1]; exact hend
              have hj : ∃ j : Nat, idx = (j : Int) ∧ j < lc ∧ Plan.StepR T s A (T.to A j) := by
                rcases HIDX.out with ⟨j, h1, h2, h3, h4⟩ | ⟨_, h4⟩
                · refine ⟨j, h1, h2, hne, j, by rw [HE.out.2.1]; exact h2, rfl, of_decide_eq_true h3, fun k hk => of_decide_eq_false (h4 k hk)⟩
                · obtain ⟨k, h5, h6⟩ := HF.out.tight HAT.out hne
                  rw [HE.out.2.1] at h5
                  exact absurd h6 (of_decide_eq_false (h4 k h5))
              obtain ⟨j, rfl, hjl, hstep⟩ := hj
              have HSTEP := Lib.hid hstep
              have HJL := Lib.hid (show j < T.lc A by rw [HE.out.2.1]; exact hjl)
              have hdj : decide ((j : Int) < 0) = false := decide_eq_false (by omega)
              clear hstep hne hend
              refine wp_region_below (by kernel_rfl) (by kernel_rfl) ?_
              repeat (go_big_quiet_step (fail))
              refine wpQuiet_nil ?_
              intro w3 hb3
              have HP3 := Lib.hid (HP2.out.call hb3)
              have HPC3 := Lib.hid (HPC2.out.call hb3)
              have HLB3 := Lib.hid (Nat.le_trans HLB2.out hb3.size)
              clear hb3 r1 r2 r3 r4 r5
              obtain ⟨p1, p4, ⟨p6, f6⟩, pO⟩ := HPC3.out
              obtain ⟨_, _, c2', _⟩ := (HR.out.call HP3.out.2.2.2.2.2).at HAT.out
              rw [HE.out.2.1, HE.out.2.2.1, HE.out.2.2.2] at c2'
              have hlk := (HR.out.call HP3.out.2.2.2.2.2).links HAT.out
              rw [HE.out.2.1, HE.out.2.2.1] at hlk
              obtain ⟨b, rfl⟩ := hlk.1 (by omega)
              obtain ⟨d0, _, _⟩ := hlk.at hjl
              obtain ⟨q1, _, q3⟩ := Plan.to_lt HOK.out HAT.out HJL.out
              have hpz := Plan.Topo.pos HTO.out.1 (HTO.out.1.full HTO.out.2 HAT.out) HJL.out
              rw [q3] at d0
              obtain ⟨z, hz⟩ : ∃ x, T.to A j = x := ⟨_, rfl⟩
              rw [hz] at d0 q1 hpz
              have HZ := Lib.hid hz
              have HQ1 := Lib.hid q1
              have j1 : (0 : Int) ≤ (j : Int) := by omega
              have j2 : (j : Int) < (lc : Int) := by omega
              have HPZ := Lib.hid (HPC3.out.set (by omega) (by omega) (by omega) z)
              have HOW := Lib.hid (own_far HP3.out.2.1 (p := ⟨w1.heap.size + 1, 0, none⟩) (fun k hk => by have := (HP3.out.2.1.lt k hk).1; show k ≠ w1.heap.size + 1; have := hsz1; omega) (.int .i64 (z : Int)))
              have hw3 := HLB3.out
              have HBS := Lib.hid (HP3.out.2.2.2.2.2.setCell (p := ⟨w1.heap.size + 1, 0, none⟩) (by show w.heap.size ≤ w1.heap.size + 1; omega) (.int .i64 (z : Int)))
              clear pO hlk hz q3
              go_wp2_with (at_builtin; refine wpList_append_own _ rfl (.tmp 77) (.tmp 79) 23 rfl wA.heap.size 3 i0 (.int .i64 0) 1 8 Tryd.underlying23 hi0 hz0 hz1' hz2 rfl (by decide) _ m (ntV out) rfl (by have h9 := HOW.out; rw [HM.out] at h9; exact h9.alloc _) _ 1 1 [.int .i64 (z : Int)] rfl rfl (cells_at (by simp [World.setCell]) _ _) (by simp [Value.oneCell']) (by unfold maxLen; omega) (by omega) (by simp [World.setCell]; omega) ?_; intro v8 w8 hown hgrow _)
              obtain ⟨g8, c8, hv8, hg8, hg9⟩ := hown.form (by omega)
              subst hv8
              have hlt8 := HOW.out.lt
              have hbl := (Below.alloc (Below.refl wA.heap.size (w3.setCell ⟨w1.heap.size + 1, 0, none⟩ (.int .i64 (z : Int)))) (by simp [World.setCell]; omega) (.cells #[.int .i64 (z : Int)] 3)).grown hgrow (by simp [World.setCell]; omega) (fun k hk => (hlt8 k hk).1)
              have hlast : (out ++ [z]).getD (m + 1 - 1) 0 = z := by
                have e : m + 1 - 1 = out.length := by rw [HM.out]; omega
                rw [e]; simp [List.getD]
              have hfst : (out ++ [z]).getD 0 0 = out.getD 0 0 := by
                have e : 0 < out.length := by rw [HM.out]; exact hm0
                unfold List.getD
                rw [List.getElem?_append_left e]
              have hl8 : (out ++ [z]).length = m + 1 := by rw [List.length_append, HM.out]; rfl
              have HP8 := Lib.hid (show PaSt T w (some a) n cap B w.heap.size w1.heap.size (w1.heap.size + 1) wA.heap.size s o (.slice (some ⟨g8, 0, none⟩) (m + 1) c8) (out ++ [z]) w8 from by
                refine ⟨?_, ?_, HP3.out.2.2.1.snoc HQ1.out ?_, hfst.trans HP3.out.2.2.2.1, ?_, HBS.out.trans (hbl.mono (by omega))⟩
                · rw [hl8, hlast]
                  exact HPZ.out.below hbl (by omega) (by omega) (by omega) (by omega)
                · rw [ntV_snoc, hl8]; exact hown
                · rw [HM.out, HAE.out, ← HZ.out]; exact HSTEP.out
                · rw [hl8, hlast]; omega)
              have HL8 := Lib.hid (show wA.heap.size ≤ w8.heap.size by have := hbl.size; simp [World.setCell] at this; omega)
              clear hown hgrow hbl hlt8
              go_roundw
              case rel => exact ⟨_, m + 1, c8, out ++ [z], rfl, by omega, by omega, Lib.hid hl8, HP8, HL8⟩
              case measure => simp [slen]; omega
end Go.Proofs.YthhaopdimilmcaaDoor
