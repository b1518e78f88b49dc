/- The document's Level. -/
import Derived.Test.YthhaopdimilmcaaDoorLvrD
namespace Go.Proofs.YthhaopdimilmcaaDoor
open Go.RowKit
theorem OwnS.below {w w' : World} {B n b : Nat} {f t : Nat → Int} (h : OwnS w B n f t) (hB : B < b) (hb : Below b w w') : OwnS w' B n f t :=
  ⟨Nat.lt_of_lt_of_le h.1 hb.size, fun j hj => ⟨⟨(hb.cell (p := ⟨B, j * 2, none⟩) hB).trans (h.2 j hj).1.1, (hb.frozen (p := ⟨B, j * 2, none⟩) hB).trans (h.2 j hj).1.2⟩, (hb.cell (p := ⟨B, j * 2 + 1, none⟩) hB).trans (h.2 j hj).2.1, (hb.frozen (p := ⟨B, j * 2 + 1, none⟩) hB).trans (h.2 j hj).2.2⟩⟩
theorem srch_bd {T : Plan} (hT : T.Ok) {f t : Nat → Int} {z : Nat → Bool} {hn : Nat} {hv : Nat → Int} {i p : Nat} (hi : i < T.n) (h0 : ∀ r, r < hn → T.use i r ≤ hv r) (hI : LevI T hn hv p f t z) (hl : ∀ k, k < T.lc i → z (T.to i k) = true) {s : Int} (hs : Srch (FitP T f t z T.n hn hv i) (fun x => laterF f t z x T.n) (T.mx f i (T.lc i)) s) : s ≤ 3000000 * (p : Int) + 3000000 := by
  obtain ⟨s', h1, h2⟩ := srch_least h0 _ (T.mx f i (T.lc i)) rfl
  rw [hs.one h1]
  rcases h2.2.2.1 with h | ⟨j, g1, g2, g3⟩
  · have := (mx_hi hT hi (M := 3000000 * (p : Int)) (by omega) (fun j hj hz => ⟨(hI.bd j hj hz).1, (hI.bd j hj hz).2.1⟩) hl).2
    omega
  · have h3 := hI.bd j g1 g2
    have h4 := (hT.task j g1).head.1
    omega
/-- The document's levelling under way, in memory. -/
def RlM (w0 : World) (B n : Nat) (f t : Nat → Int) (b : Nat) (v : Value) (l : List Nat) (wr : World) : Prop :=
  OwnS wr B n f t ∧ wr.ownsRow b 3 1 v l.length (ntV l) ∧ (B < b ∧ b ≤ wr.heap.size ∧ w0.heap.size ≤ B) ∧ Below w0.heap.size w0 wr
theorem RlM.call {w0 : World} {B n : Nat} {f t : Nat → Int} {b : Nat} {v : Value} {l : List Nat} {wr w' : World} (h : RlM w0 B n f t b v l wr) (hb : Below wr.heap.size wr w') : RlM w0 B n f t b v l w' :=
  ⟨h.1.call hb, own_call h.2.1 hb, ⟨h.2.2.1.1, Nat.le_trans h.2.2.1.2.1 hb.size, h.2.2.1.2.2⟩, thenB h.2.2.2 hb⟩
theorem RlM.put {w0 : World} {B n : Nat} {f t : Nat → Int} {b : Nat} {v : Value} {l : List Nat} {wr : World} (h : RlM w0 B n f t b v l wr) {i : Nat} (hi : i < n) (x y : Int) : RlM w0 B n (Plan.upd f i x) (Plan.upd t i y) b v l ((wr.setCell ⟨B, i * 2, none⟩ (.int .i64 x)).setCell ⟨B, i * 2 + 1, none⟩ (.int .i64 y)) := by
  obtain ⟨h1, h2, ⟨h3, h4, h5⟩, h6⟩ := h
  have hlt := h2.lt
  refine ⟨(h1.set0 hi x).set1 hi y, own_far (own_far h2 (fun k hk e => ?_) _) (fun k hk e => ?_) _, ⟨h3, by simpa [World.setCell] using h4, h5⟩, (h6.setCell (p := ⟨B, i * 2, none⟩) h5 _).setCell (p := ⟨B, i * 2 + 1, none⟩) h5 _⟩
  · have h7 := (hlt k hk).1
    have h8 : k = B := e
    omega
  · have h7 := (hlt k hk).1
    have h8 : k = B := e
    omega
theorem RlM.grow {w0 : World} {B n : Nat} {f t : Nat → Int} {b : Nat} {v v' : Value} {l : List Nat} {x : Nat} {w1 w2 : World} {o : Obj} (h : RlM w0 B n f t b v l w1) (hg : (w1.alloc o).grownBy w2 v.ownBlock) (hown : w2.ownsRow b 3 1 v' (l.length + 1) (ntV l ++ [.int .i64 (x : Int)])) : RlM w0 B n f t b v' (l ++ [x]) w2 := by
  obtain ⟨h1, h2, ⟨h3, h4, h5⟩, h6⟩ := h
  have hlt := h2.lt
  have hbl : Below b w1 w2 := (Below.alloc (Below.refl _ _) h4 o).grown hg (by simp; omega) (fun k hk => (hlt k hk).1)
  refine ⟨h1.below h3 hbl, ?_, ⟨h3, Nat.le_trans h4 hbl.size, h5⟩, h6.trans (hbl.mono (by omega))⟩
  rw [show ntV (l ++ [x]) = ntV l ++ [.int .i64 (x : Int)] by simp [ntV], List.length_append]
  exact hown
set_option maxRecDepth 100000 in
set_option maxHeartbeats 16000000 in
theorem refLevel_any (oa : Option Addr) (cap : Nat) (AL AU : Nat → Option Addr) (CL CU : Nat → Nat) (T : Plan) (n : Nat) (oh : Option Addr) (hn hc : Nat) (hv : Nat → Int) (w : World) (hnn : T.n = n) (hn0 : n ≤ 9223372036854775807) (hlc : ∀ i, i < n → T.lc i ≤ 9223372036854775807 ∧ T.uc i ≤ 9223372036854775807) (hh6 : hn ≤ 1000000) (hR : PlanR w oa AL AU CL CU T) (hH : IntsR w oh hn hv) :
    Calls Tryd.prog 26 #[.slice oa n cap, .slice oh hn hc] w fun e w' => ∃ v x, e = .returned (.tuple #[v, .int .i64 x]) ∧ LevelV T hn hv w.heap.size v x w' ∧ Below w.heap.size w w' := by
  have hend := refEnd_any oa cap AL AU CL CU T n w hnn hn0 hlc hR
  have hlate : ∀ y w', PlanR w' oa AL AU CL CU T → Calls Tryd.prog 19 #[.slice oa n cap, .int .i64 y] w' fun e w2 => ∃ v x, e = .returned (.tuple #[v, .int .i64 x]) ∧ RLateV y T w'.heap.size v x w2 ∧ Below w'.heap.size w' w2 := fun y w' h => refLate_any oa cap AL AU CL CU T n y w' hnn hn0 hlc h
  have HR := Lib.hid hR
  have HH := Lib.hid hH
  have HNN := Lib.hid hnn
  have HLA := Lib.hid hlate
  clear hR hH hn0 hlc hnn hlate
  go_enter Tryd.func26, Tryd.ntmps26
  go_wp2_with fail
  refine hend.mono ?_
  clear hend
  rintro e w1 ⟨v, x, rfl, (⟨hc1, rfl, rfl⟩ | ⟨hc1, rfl, s, rfl, hF, hbd⟩), hb1⟩
  · have HB1 := Lib.hid hb1
    have HC := Lib.hid hc1
    have hcb : (T.chk != 0) = true := by simpa using hc1
    clear hb1 hc1
    go_wp2_with fail
    go_ret2
    exact ⟨_, _, rfl, .inl ⟨HC.out, rfl, rfl⟩, HB1.out⟩
  · have HB1 := Lib.hid hb1
    have HC := Lib.hid hc1
    have HOK := Lib.hid (Plan.chk_ok hc1)
    have HF := Lib.hid hF
    have hn6 : n ≤ 60 := by rw [← HNN.out]; exact HOK.out.size
    have hEb := last_bd HOK.out hbd T.n (Nat.le_refl _)
    obtain ⟨E, hE⟩ : ∃ x, Plan.last T s T.n = x := ⟨_, rfl⟩
    rw [hE] at hEb ⊢
    have HE := Lib.hid hE
    clear hb1 hc1 hF hbd hE
    go_wp2_with fail
    go_loopw [8, 9] (fun g c wr => ∃ (bb : Bool) (r : Nat), g = .bool bb ∧ c = .int .i64 (r : Int) ∧ r ≤ hn ∧ Hid (bb = true ↔ ∃ j, j < r ∧ hv j < 0) ∧ wr = w1) (fun _ c _ => hn - (intOf c).toNat)
    case atStart => exact ⟨false, 0, rfl, rfl, by omega, Lib.hid ⟨fun h => Bool.noConfusion h, fun ⟨j, h, _⟩ => absurd h (Nat.not_lt_zero j)⟩, rfl⟩
    case round =>
      obtain ⟨bb, r, rfl, rfl, hr, HBB, hwr⟩ := hrel
      subst hwr
      by_cases hrh : r < hn
      · have HHC := HH.out.call HB1.out
        obtain ⟨bh, rfl⟩ := HHC.1 (by omega)
        have chh := HHC.at hrh
        have hbb := World.block_lt_of_cell? _ _ chh
        obtain ⟨V, hV⟩ : ∃ x, hv r = x := ⟨_, rfl⟩
        rw [hV] at chh
        have HV := Lib.hid hV
        have r1 : (0 : Int) ≤ (r : Int) := by omega
        have r2 : (r : Int) < (hn : Int) := by omega
        clear HHC hV
        cases bb with
        | true =>
          go_wp2_with fail
          go_roundw
          case rel => exact ⟨true, r + 1, rfl, by go_num, by omega, Lib.hid ⟨fun _ => by obtain ⟨j, h1, h2⟩ := HBB.out.1 (by simp); exact ⟨j, by omega, h2⟩, fun _ => rfl⟩, by first | rfl | trivial⟩
          case measure => simp [intOf]; omega
        | false =>
          have HNO := Lib.hid (show ∀ j, j < r → ¬ hv j < 0 from fun j h1 h2 => Bool.noConfusion (HBB.out.2 ⟨j, h1, h2⟩))
          clear HBB
          by_cases hVn : V < 0
          · have d1 : decide (V < 0) = true := decide_eq_true hVn
            have HVN := Lib.hid hVn
            clear hVn
            go_wp2_with fail
            go_roundw
            case rel => exact ⟨true, r + 1, rfl, by go_num, by omega, Lib.hid ⟨fun _ => ⟨r, by omega, by rw [HV.out]; exact HVN.out⟩, fun _ => rfl⟩, by first | rfl | trivial⟩
            case measure => simp [intOf]; omega
          · have d1 : decide (V < 0) = false := decide_eq_false hVn
            have HVN := Lib.hid hVn
            clear hVn
            go_wp2_with fail
            go_roundw
            case rel =>
              refine ⟨false, r + 1, rfl, by go_num, by omega, Lib.hid ⟨fun h => Bool.noConfusion h, fun ⟨j, h1, h2⟩ => ?_⟩, by first | rfl | trivial⟩
              by_cases e : j = r
              · subst e; rw [HV.out] at h2; exact absurd h2 HVN.out
              · exact absurd h2 (HNO.out j (by omega))
            case measure => simp [intOf]; omega
      · obtain rfl : hn = r := by omega
        by_cases h8 : 8 < hn
        · have hd8 : decide ((8 : Int) < (hn : Int)) = true := decide_eq_true (by omega)
          go_wp2_with fail
          go_ret2
          exact ⟨_, _, rfl, .inr (.inl ⟨HC.out, fun h => by have := h.1; omega, rfl, rfl⟩), HB1.out⟩
        have hd8 : decide ((8 : Int) < (hn : Int)) = false := decide_eq_false (by omega)
        cases bb with
        | true =>
          go_wp2_with fail
          go_ret2
          refine ⟨_, _, rfl, .inr (.inl ⟨HC.out, fun h => ?_, rfl, rfl⟩), HB1.out⟩
          obtain ⟨j, h1, h2⟩ := HBB.out.1 (by simp)
          have := h.2 j h1
          omega
        | false =>
        have HHV := Lib.hid (show HaveOk hn hv from ⟨by omega, fun r hr => Classical.byContradiction fun hlt => Bool.noConfusion (HBB.out.2 ⟨r, hr, by omega⟩)⟩)
        clear HBB
        go_wp2_with fail
        go_loopw [10] (fun c wr => ∃ i : Nat, c = .int .i64 (i : Int) ∧ i ≤ n ∧ Hid (NoClash T hn hv i) ∧ Hid (Below w.heap.size w wr)) (fun c _ => n - (intOf c).toNat)
        case atStart => exact ⟨0, rfl, by omega, Lib.hid fun i hi => absurd hi (Nat.not_lt_zero i), HB1⟩
        case round =>
          clear HB1
          obtain ⟨i, rfl, hi, HNC, HW⟩ := hrel
          obtain ⟨wA, rfl⟩ : ∃ wo : World, wo = wr := ⟨_, rfl⟩
          by_cases hin : i < n
          · have HIN := Lib.hid (show i < T.n by rw [HNN.out]; exact hin)
            obtain ⟨a, rfl⟩ := (HR.out.call HW.out).1 (by rw [HNN.out]; omega)
            have hucb := (HOK.out.task i HIN.out).head.2.2.2
            obtain ⟨uc, hucE⟩ : ∃ x, T.uc i = x := ⟨_, rfl⟩
            obtain ⟨au, hau⟩ : ∃ x, AU i = x := ⟨_, rfl⟩
            obtain ⟨cu, hcu⟩ : ∃ x, CU i = x := ⟨_, rfl⟩
            have HE2 := Lib.hid (And.intro hucE (And.intro hau hcu))
            rw [hucE] at hucb
            have i1 : (0 : Int) ≤ (i : Int) := by omega
            have i2 : (i : Int) < (n : Int) := by omega
            clear hucE hau hcu
            go_wp2_with fail
            go_loopw [11] (fun c wr => ∃ r : Nat, c = .int .i64 (r : Int) ∧ r ≤ uc ∧ Hid (∀ r', r' < r → ¬ Clash T hn hv i r') ∧ Hid (Below w.heap.size w wr)) (fun c _ => uc - (intOf c).toNat)
            case atStart => exact ⟨0, rfl, by omega, Lib.hid fun r hr => absurd hr (Nat.not_lt_zero r), HW⟩
            case round =>
              clear HW
              obtain ⟨r, rfl, hr, HNR, HWB⟩ := hrel
              obtain ⟨wB, rfl⟩ : ∃ wo : World, wo = wr := ⟨_, rfl⟩
              obtain ⟨-, -, -, c3⟩ := (HR.out.call HWB.out).at HIN.out
              rw [HE2.out.1, HE2.out.2.1, HE2.out.2.2] at c3
              have hab := World.block_lt_of_cell? _ _ c3
              by_cases hru : r < uc
              · have HU := HR.out.call HWB.out |>.ints HIN.out
                rw [HE2.out.1, HE2.out.2.1] at HU
                obtain ⟨ub, rfl⟩ := HU.1 (by omega)
                have hcu := HU.at hru
                have hub := World.block_lt_of_cell? _ _ hcu
                obtain ⟨U, hUE⟩ : ∃ x, T.us i r = x := ⟨_, rfl⟩
                rw [hUE] at hcu
                have HUE := Lib.hid hUE
                have y1 := cell_regrown c3
                have y2 := cell_regrown hcu
                have r1 : (0 : Int) ≤ (r : Int) := by omega
                have r2 : (r : Int) < (uc : Int) := by omega
                clear HU hUE
                by_cases hrh2 : r < hn
                · have HRH := Lib.hid hrh2
                  have d1 : decide ((hn : Int) ≤ (r : Int)) = false := decide_eq_false (by omega)
                  have d2 : decide ((r : Int) < (hn : Int)) = true := decide_eq_true (by omega)
                  have n1 : decide (hn ≤ r) = false := decide_eq_false (by omega)
                  have n2 : decide (r < hn) = true := decide_eq_true (by omega)
                  have r3 : (r : Int) < (hn : Int) := by omega
                  have HHB := HH.out.call HWB.out
                  obtain ⟨bh, rfl⟩ := HHB.1 (by omega)
                  have chh := HHB.at hrh2
                  have hbb := World.block_lt_of_cell? _ _ chh
                  obtain ⟨V, hV⟩ : ∃ x, hv r = x := ⟨_, rfl⟩
                  rw [hV] at chh
                  have HV := Lib.hid hV
                  have y3 := cell_regrown chh
                  clear HHB hV hrh2
                  by_cases hgt : V < U
                  · have d3 : decide (V < U) = true := decide_eq_true hgt
                    have HGT := Lib.hid hgt
                    clear hgt
                    go_wp2_with fail
                    refine wp_region_below (by kernel_rfl) (by kernel_rfl) ?_
                    repeat (go_big_quiet_step (fail))
                    refine wpQuiet_nil ?_
                    intro w5 hb5
                    have HW5 := Lib.hid (thenB HWB.out hb5)
                    clear hb5
                    go_wp2_with fail
                    go_ret2
                    exact ⟨_, _, rfl, .inr (.inr (.inl ⟨HC.out, HHV.out, fun h => h i HIN.out r (by rw [HE2.out.1]; exact hru) (.inr ⟨HRH.out, by rw [HUE.out, HV.out]; exact HGT.out⟩), rfl, rfl⟩)), HW5.out⟩
                  · have d3 : decide (V < U) = false := decide_eq_false hgt
                    have HGT := Lib.hid hgt
                    clear hgt
                    go_wp2_with fail
                    refine wp_region_below (by kernel_rfl) (by kernel_rfl) ?_
                    repeat (go_big_quiet_step (fail))
                    refine wpQuiet_nil ?_
                    intro w5 hb5
                    have HW5 := Lib.hid (thenB HWB.out hb5)
                    clear hb5
                    go_wp2_with fail
                    go_roundw
                    case rel =>
                      refine ⟨r + 1, by go_num, by omega, Lib.hid fun r' hr' => ?_, HW5⟩
                      by_cases e : r' = r
                      · subst e
                        rintro (⟨h, _⟩ | ⟨_, h⟩)
                        · have := HRH.out; omega
                        · rw [HUE.out, HV.out] at h; have := HGT.out; omega
                      · exact HNR.out r' (by omega)
                    case measure => simp [intOf]; omega
                · have HRH := Lib.hid hrh2
                  have d1 : decide ((hn : Int) ≤ (r : Int)) = true := decide_eq_true (by omega)
                  have d2 : decide ((r : Int) < (hn : Int)) = false := decide_eq_false (by omega)
                  have n1 : decide (hn ≤ r) = true := decide_eq_true (by omega)
                  have n2 : decide (r < hn) = false := decide_eq_false (by omega)
                  clear hrh2
                  by_cases hgt : 0 < U
                  · have d3 : decide (0 < U) = true := decide_eq_true hgt
                    have HGT := Lib.hid hgt
                    clear hgt
                    go_wp2_with fail
                    refine wp_region_below (by kernel_rfl) (by kernel_rfl) ?_
                    repeat (go_big_quiet_step (fail))
                    refine wpQuiet_nil ?_
                    intro w5 hb5
                    have HW5 := Lib.hid (thenB HWB.out hb5)
                    clear hb5
                    go_wp2_with fail
                    go_ret2
                    exact ⟨_, _, rfl, .inr (.inr (.inl ⟨HC.out, HHV.out, fun h => h i HIN.out r (by rw [HE2.out.1]; exact hru) (.inl ⟨by have := HRH.out; omega, by rw [HUE.out]; exact HGT.out⟩), rfl, rfl⟩)), HW5.out⟩
                  · have d3 : decide (0 < U) = false := decide_eq_false hgt
                    have HGT := Lib.hid hgt
                    clear hgt
                    go_wp2_with fail
                    refine wp_region_below (by kernel_rfl) (by kernel_rfl) ?_
                    repeat (go_big_quiet_step (fail))
                    refine wpQuiet_nil ?_
                    intro w5 hb5
                    have HW5 := Lib.hid (thenB HWB.out hb5)
                    clear hb5
                    go_wp2_with fail
                    go_roundw
                    case rel =>
                      refine ⟨r + 1, by go_num, by omega, Lib.hid fun r' hr' => ?_, HW5⟩
                      by_cases e : r' = r
                      · subst e
                        rintro (⟨_, h⟩ | ⟨h, _⟩)
                        · rw [HUE.out] at h; have := HGT.out; omega
                        · exact HRH.out h
                      · exact HNR.out r' (by omega)
                    case measure => simp [intOf]; omega
              · obtain rfl : uc = r := by omega
                go_wp2_with fail
                go_roundw
                case rel =>
                  refine ⟨i + 1, by go_num, by omega, Lib.hid fun i' hi' => ?_, HWB⟩
                  by_cases e : i' = i
                  · subst e
                    intro r' hr'
                    exact HNR.out r' (by rw [HE2.out.1] at hr'; exact hr')
                  · exact HNC.out i' (by omega)
                case measure => simp [intOf]; omega
          · obtain rfl : n = i := by omega
            have HNC2 := Lib.hid (show NoClash T hn hv T.n by rw [HNN.out]; exact HNC.out)
            clear HNC
            go_wp2_with fail
            refine (HLA.out E wA (HR.out.call HW.out)).mono ?_
            rintro e w3 ⟨v3, x3, rfl, hV3, hb3⟩
            rcases hV3 with ⟨hc3, _⟩ | ⟨_, s3, hF3, ⟨h3, _⟩ | ⟨h3, h4, _⟩ | ⟨_, _, rfl, q, hQ, hL3⟩⟩
            · exact absurd HC.out hc3
            · rw [Plan.last_congr (T := T) T.n (Plan.Fix.unique HOK.out.full hF3 HF.out), HE.out] at h3
              omega
            · omega
            obtain ⟨oq, cq, rfl, hQ2⟩ := hQ
            rw [HNN.out] at hQ2 ⊢
            have HQ := Lib.hid hQ2
            have HB3 := Lib.hid (thenB HW.out hb3)
            have HPL := Lib.hid (show Plan.Latest T (Plan.last T s T.n) q from by rw [HE.out]; exact hL3)
            clear hF3 hQ2 hL3 hb3 HW
            obtain ⟨MS, hMS, hmakeS⟩ := make_spans n (by omega)
            have HMS := Lib.hid hMS
            clear hMS
            obtain ⟨i0, hi0, hz0, hz1, hz2⟩ := info_parts int_info
            have HM0 := Lib.hid (show RlM w3 w3.heap.size n (fun _ => 0) (fun _ => 0) (w3.alloc (.cells MS 38)).heap.size (.slice none 0 0) [] (w3.alloc (.cells MS 38)) from
              ⟨OwnS.new w3 n MS _ HMS.out, World.ownsRow_nil _ _ _ _, ⟨by simp, Nat.le_refl _, Nat.le_refl _⟩, Below.alloc (Below.refl _ _) (Nat.le_refl _) _⟩)
            have HWS := Lib.hid (show (w3.alloc (.cells MS 38)).heap.size = w3.heap.size + 1 by simp)
            go_wp2_with fail
            clear hmakeS HMS
            obtain ⟨Bz, hBz⟩ : ∃ x, w3.heap.size = x := ⟨_, rfl⟩
            have HBZ := Lib.hid hBz
            try rw [hBz]
            rw [hBz] at HM0
            rw [HWS.out, hBz] at HM0
            clear hBz
            go_loopw [15] (fun v wr => ∃ (ob : Option Addr) (m c3 : Nat) (f t : Nat → Int) (z : Nat → Bool) (l : List Nat), v = .slice ob m c3 ∧ m ≤ n ∧ Hid (l.length = m ∧ DoneL T l z) ∧ Hid (Lev T hn hv q m f t z) ∧ Hid (LevI T hn hv m f t z) ∧ Hid (RlM w3 Bz n f t (Bz + 1) (.slice ob m c3) l wr)) (fun v _ => n - slen v)
            case atStart => exact ⟨none, 0, 0, _, _, _, [], rfl, by omega, Lib.hid ⟨rfl, .nil⟩, Lib.hid .start, Lib.hid (LevI.start HHV.out.2), HM0⟩
            case round =>
              clear HM0
              obtain ⟨ob, m, c3, f, t, z, l, rfl, hm, HL, HLV, HLI, HM⟩ := hrel
              obtain ⟨wD, rfl⟩ : ∃ wo : World, wo = wr := ⟨_, rfl⟩
              by_cases hmn : m < n
              · go_wp2_with fail
                go_loopw [16, 17] (fun nx c wr => ∃ (N : Int) (k : Nat), nx = .int .i64 N ∧ c = .int .i64 (k : Int) ∧ k ≤ n ∧ Hid (N = pickI T q z k) ∧ Hid (RlM w3 Bz n f t (Bz + 1) (.slice ob m c3) l wr)) (fun _ c _ => n - (intOf c).toNat)
                case atStart => exact ⟨-1, 0, rfl, rfl, by omega, Lib.hid rfl, HM⟩
                case round =>
                  clear HM
                  obtain ⟨N, k, rfl, rfl, hk, HN, HM⟩ := hrel
                  obtain ⟨wE, rfl⟩ : ∃ wo : World, wo = wr := ⟨_, rfl⟩
                  have HIL := Lib.hid (show IntsL wE (Bz + 1) (.slice ob m c3) l from by have h := HM.out.2.1; exact IntsL.own h)
                  by_cases hkn : k < n
                  · have HIN := Lib.hid (show k < T.n by rw [HNN.out]; exact hkn)
                    have HRE := Lib.hid (HR.out.call (thenB HB3.out HM.out.2.2.2))
                    obtain ⟨a, rfl⟩ := HRE.out.1 (by rw [HNN.out]; omega)
                    obtain ⟨-, -, t2, -⟩ := HRE.out.at HIN.out
                    have hlcb := (HOK.out.task k HIN.out).head.2.2.1
                    obtain ⟨lc, hlcE⟩ : ∃ x, T.lc k = x := ⟨_, rfl⟩
                    obtain ⟨al, hal⟩ : ∃ x, AL k = x := ⟨_, rfl⟩
                    obtain ⟨cl, hcl⟩ : ∃ x, CL k = x := ⟨_, rfl⟩
                    rw [hal, hlcE, hcl] at t2
                    rw [hlcE] at hlcb
                    have HE2 := Lib.hid (And.intro hlcE hal)
                    have i1 : (0 : Int) ≤ (k : Int) := by omega
                    have i2 : (k : Int) < (n : Int) := by omega
                    have hab := World.block_lt_of_cell? _ _ t2
                    have hstep : pickI T q z (k + 1) = if Ready T z k ∧ (pickI T q z k < 0 ∨ q k < q (pickI T q z k).toNat) then (k : Int) else pickI T q z k := rfl
                    rw [← HN.out] at hstep
                    have HST := Lib.hid hstep
                    clear hlcE hal hcl hstep
                    go_wp2_with (go_at_call 38; refine (member_any ob m c3 (Bz + 1) l k wE (by omega) HL.out.1 HIL.out).mono ?_; rintro e w2 ⟨rfl, hw2⟩; obtain rfl := hw2.symm; clear hw2)
                    clear t2 hab
                    go_loopw [18, 131] (fun b c wr => ∃ (x : Bool) (j : Nat), b = .bool x ∧ c = .int .i64 (j : Int) ∧ j ≤ lc ∧ Hid (x = true ↔ k ∉ l ∧ ∀ i, i < j → T.to k i ∈ l) ∧ Hid (Below wE.heap.size wE wr)) (fun _ c _ => lc - (intOf c).toNat)
                    case atStart => exact ⟨_, 0, rfl, rfl, by omega, Lib.hid (by simp), Lib.hid (Below.refl _ _)⟩
                    case round =>
                      obtain ⟨x, j, rfl, rfl, hj, HX, HC2⟩ := hrel
                      obtain ⟨wC, rfl⟩ : ∃ wo : World, wo = wr := ⟨_, rfl⟩
                      by_cases hjl : j < lc
                      · have HKL := Lib.hid (show j < T.lc k by rw [HE2.out.1]; exact hjl)
                        have hLK := (HRE.out.call HC2.out).links HIN.out
                        rw [HE2.out.1, HE2.out.2] at hLK
                        obtain ⟨b, rfl⟩ := hLK.1 (by omega)
                        obtain ⟨d0, d1, d2⟩ := hLK.at hjl
                        clear hLK
                        have hto := (Plan.to_lt HOK.out HIN.out HKL.out).2.2
                        rw [hto] at d0
                        obtain ⟨zz, hzz⟩ : ∃ x, T.to k j = x := ⟨_, rfl⟩
                        obtain ⟨kk, hkk⟩ : ∃ x, T.lk k j = x := ⟨_, rfl⟩
                        obtain ⟨gg, hgg⟩ : ∃ x, T.lg k j = x := ⟨_, rfl⟩
                        rw [hzz] at d0
                        rw [hkk] at d1
                        rw [hgg] at d2
                        have HZZ := Lib.hid hzz
                        have HCA := Lib.hid (HC2.out.alloc HC2.out.size (.cells #[.int .i64 (zz : Int), .int .i64 kk, .int .i64 gg] 43))
                        clear hzz hkk hgg hto
                        cases x with
                        | false =>
                          go_wp2_with fail
                          go_roundw
                          case rel =>
                            refine ⟨false, j + 1, rfl, by go_num, by omega, Lib.hid ⟨fun h => (by cases h), fun ⟨h1, h2⟩ => ?_⟩, HCA⟩
                            exact HX.out.2 ⟨h1, fun i hi => h2 i (by omega)⟩
                          case measure => simp [intOf]; omega
                        | true =>
                          have HIL2 := Lib.hid ((HIL.out.call HC2.out).call (Below.alloc (Below.refl _ _) (Nat.le_refl _) (.cells #[.int .i64 (zz : Int), .int .i64 kk, .int .i64 gg] 43)))
                          go_wp2_with (go_at_call 38; refine (member_any ob m c3 (Bz + 1) l zz _ (by omega) HL.out.1 HIL2.out).mono ?_; rintro e w3 ⟨rfl, hw3⟩; obtain rfl := hw3.symm; clear hw3)
                          go_roundw
                          case rel =>
                            refine ⟨_, j + 1, rfl, by go_num, by omega, Lib.hid ⟨fun h => ?_, fun ⟨_, h2⟩ => ?_⟩, HCA⟩
                            · obtain ⟨h1, h2⟩ := HX.out.1 (by simp)
                              refine ⟨h1, fun i hi => ?_⟩
                              by_cases e : i = j
                              · subst e; rw [HZZ.out]; simpa using h
                              · exact h2 i (by omega)
                            · have := h2 j (by omega)
                              rw [HZZ.out] at this
                              simpa using this
                          case measure => simp [intOf]; omega
                      · obtain rfl : lc = j := by omega
                        have HRDY := Lib.hid (show x = true ↔ Ready T z k from by
                          rw [HX.out]
                          unfold Ready
                          rw [HL.out.2.mem k]
                          constructor
                          · rintro ⟨h1, h2⟩
                            exact ⟨by simpa using h1, fun i hi => (HL.out.2.mem _).1 (h2 i (by rw [← HE2.out.1]; exact hi))⟩
                          · rintro ⟨h1, h2⟩
                            exact ⟨by simp [h1], fun i hi => (HL.out.2.mem _).2 (h2 i (by rw [HE2.out.1]; exact hi))⟩)
                        have HMC := Lib.hid (HM.out.call HC2.out)
                        clear HX HM HIL
                        cases x with
                        | false =>
                          have HNR := Lib.hid (show ¬ Ready T z k from fun h => Bool.noConfusion (HRDY.out.2 h))
                          go_wp2_with fail
                          go_quiet (fail)
                          go_wp2_with fail
                          go_roundw
                          case rel => exact ⟨N, k + 1, rfl, by go_num, by omega, Lib.hid (by rw [HST.out, if_neg (fun h => HNR.out h.1)]), Lib.hid (HMC.out.call (by with_reducible first | exact below_drew (Below.refl _ _) | exact below_drewN (Below.refl _ _) _))⟩
                          case measure => simp [intOf]; omega
                        | true =>
                          have HRD := Lib.hid (show Ready T z k from HRDY.out.1 (by simp))
                          by_cases hN : N < 0
                          · have d1 : decide (N < 0) = true := decide_eq_true hN
                            have HNS := Lib.hid (show pickI T q z (k + 1) = (k : Int) by rw [HST.out, if_pos ⟨HRD.out, .inl hN⟩])
                            clear hN
                            go_wp2_with fail
                            go_quiet (fail)
                            go_wp2_with fail
                            go_roundw
                            case rel => exact ⟨(k : Int), k + 1, rfl, by go_num, by omega, Lib.hid HNS.out.symm, Lib.hid (HMC.out.call (by with_reducible first | exact below_drew (Below.refl _ _) | exact below_drewN (Below.refl _ _) _))⟩
                            case measure => simp [intOf]; omega
                          · obtain ⟨j, hj2, hjN⟩ : ∃ j, j < k ∧ N = ((j : Nat) : Int) := by
                              rcases pickI_ways T q z k with ⟨h1, _⟩ | ⟨j, h1, h2, _⟩
                              · rw [← HN.out] at h1; omega
                              · exact ⟨j, h1, by rw [HN.out, h2]⟩
                            subst hjN
                            have d1 : decide ((j : Int) < 0) = false := decide_eq_false hN
                            have HS2 := Lib.hid (show pickI T q z (k + 1) = if q k < q j then (k : Int) else (j : Int) by
                              rw [HST.out, Int.toNat_natCast]
                              by_cases h : q k < q j
                              · rw [if_pos h, if_pos ⟨HRD.out, .inr h⟩]
                              · rw [if_neg h, if_neg (fun h2 => h2.2.elim hN h)])
                            obtain ⟨Bq, rfl, -, hQO⟩ := HQ.out (by omega)
                            have hQF := hQO.call (HMC.out.2.2.2)
                            obtain ⟨⟨s0, -⟩, -⟩ := hQF.2 k hkn
                            obtain ⟨⟨t0, -⟩, -⟩ := hQF.2 j (by omega)
                            have hq1 := hQF.1
                            obtain ⟨S, hS⟩ : ∃ x, q k = x := ⟨_, rfl⟩
                            obtain ⟨R, hR2⟩ : ∃ x, q j = x := ⟨_, rfl⟩
                            rw [hS] at s0
                            rw [hR2] at t0
                            rw [hS, hR2] at HS2
                            have j1 : (0 : Int) ≤ (j : Int) := by omega
                            have j3 : (j : Int) < (n : Int) := by omega
                            clear hQF hQO hS hR2 hN
                            by_cases hlt : S < R
                            · have d2 : decide (S < R) = true := decide_eq_true hlt
                              have HNS := Lib.hid (show pickI T q z (k + 1) = (k : Int) by rw [HS2.out, if_pos hlt])
                              clear hlt HS2
                              go_wp2_with fail
                              go_quiet (fail)
                              go_wp2_with fail
                              go_roundw
                              case rel => exact ⟨(k : Int), k + 1, rfl, by go_num, by omega, Lib.hid HNS.out.symm, Lib.hid (HMC.out.call (by with_reducible first | exact below_drew (Below.refl _ _) | exact below_drewN (Below.refl _ _) _))⟩
                              case measure => simp [intOf]; omega
                            · have d2 : decide (S < R) = false := decide_eq_false hlt
                              have HNS := Lib.hid (show pickI T q z (k + 1) = (j : Int) by rw [HS2.out, if_neg hlt])
                              clear hlt HS2
                              go_wp2_with fail
                              go_quiet (fail)
                              go_wp2_with fail
                              go_roundw
                              case rel => exact ⟨(j : Int), k + 1, rfl, by go_num, by omega, Lib.hid HNS.out.symm, Lib.hid (HMC.out.call (by with_reducible first | exact below_drew (Below.refl _ _) | exact below_drewN (Below.refl _ _) _))⟩
                              case measure => simp [intOf]; omega
                  · obtain rfl : n = k := by omega
                    obtain ⟨i, hi2, hpick, hrd⟩ := HLI.out.ready HOK.out (by rw [HNN.out]; exact hmn) q
                    rw [HNN.out] at hi2 hpick
                    rw [hpick] at HN
                    have hNi := HN.out
                    subst hNi
                    have HPK := Lib.hid hpick
                    have h0 := use_have HHV.out HNC2.out i
                    have hcall := refPlace_any oa n cap AL AU CL CU T oh hn hc hv Bz n ob m c3 (Bz + 1) i f t z l wE HNN.out HOK.out hh6 hi2 HL.out.1 HL.out.2
                      (fun j hj => (HLI.out.bd j (HL.out.2.lt j hj) ((HL.out.2.mem j).1 hj)).2.2)
                      (fun j hj => by
                        cases hz : z j with
                        | true =>
                          have := HLI.out.bd j (by rw [HNN.out]; exact hj) hz
                          omega
                        | false => rw [(HLV.out.zero j hz).1]; omega) hrd.2 h0 (HR.out.call (thenB HB3.out HM.out.2.2.2)) (HH.out.call (thenB HB3.out HM.out.2.2.2)) HM.out.1 HIL.out
                    have HZI := Lib.hid hrd.1
                    have HL0 := Lib.hid hrd.2
                    have H0 := Lib.hid h0
                    have i1 : (0 : Int) ≤ (i : Int) := by omega
                    have i2 : (i : Int) < (n : Int) := by omega
                    obtain ⟨L, hL⟩ : ∃ x, T.len i = x := ⟨_, rfl⟩
                    have HLI2 := Lib.hid hL
                    clear hpick HN hrd h0 hL
                    go_wp2_with fail
                    refine hcall.mono ?_
                    clear hcall
                    rintro e wF ⟨s2, rfl, hs1, hbF⟩
                    rw [HLI2.out]
                    have HSB := Lib.hid (srch_bd HOK.out (show i < T.n by rw [HNN.out]; exact hi2) H0.out HLI.out HL0.out (by rw [HNN.out]; exact hs1))
                    have HLV2 := Lib.hid (Lev.step HLV.out (by rw [HNN.out]; exact HPK.out) (by rw [HNN.out]; exact hs1))
                    have HLI3 := Lib.hid (HLI.out.step HOK.out (fun j r => use_bd HOK.out j r) (q := q) (by rw [HNN.out]; exact HPK.out) (by rw [HNN.out]; exact hs1) HSB.out)
                    have HD2 := Lib.hid (DoneL.snoc HL.out.2 (show i < T.n by rw [HNN.out]; exact hi2) HZI.out)
                    have HMF := Lib.hid (HM.out.call hbF)
                    have HMP := Lib.hid (HMF.out.put hi2 s2 (s2 + L))
                    rw [HLI2.out] at HLV2 HLI3
                    obtain ⟨⟨e1, e2⟩, e3, e4⟩ := HMF.out.1.2 i hi2
                    have hBlt := HMF.out.1.1
                    have hll : l.length = m := HL.out.1
                    have HLL := Lib.hid hll
                    clear hs1 hbF HM hll
                    go_wp2_with (at_builtin; refine wpList_append_own _ rfl (.tmp 171) (.tmp 173) 23 rfl (Bz + 1) 3 i0 (.int .i64 0) 1 8 Tryd.underlying23 hi0 hz0 hz1 hz2 rfl (by decide) _ m (ntV l) rfl (by have h9 := HMP.out.2.1; rw [HLL.out] at h9; exact h9.alloc _) _ 1 1 [.int .i64 (i : Int)] rfl rfl (cells_at (by simp) _ _) (by simp [Value.oneCell']) (by unfold maxLen; omega) (by omega) (by have := HMP.out.2.2.1.2.1; simp at this ⊢; omega) ?_; intro v8 w8 hown hgrow _)
                    obtain ⟨g8, c8, hv8, _, _⟩ := hown.form (by omega)
                    subst hv8
                    have HM8 := Lib.hid (HMP.out.grow hgrow (by rw [HLL.out]; exact hown))
                    clear hown hgrow
                    go_wp2_with fail
                    go_roundw
                    case rel => exact ⟨_, m + 1, c8, _, _, _, l ++ [i], rfl, by omega, Lib.hid ⟨by rw [List.length_append, HLL.out]; rfl, HD2.out⟩, HLV2, HLI3, HM8⟩
                    case measure => simp [slen]; omega
              · obtain rfl : n = m := by omega
                go_wp2_with fail
                go_ret2
                refine ⟨_, _, rfl, .inr (.inr (.inr ⟨HC.out, HHV.out, HNC2.out, rfl, Bz, f, t, z, s, q, by rw [HNN.out]; rfl, ?_, ?_, HF.out, HPL.out, ?_, ?_⟩)), thenB HB3.out HM.out.2.2.2⟩
                · rw [← HBZ.out]; exact HB3.out.size
                · rw [HNN.out]; exact HM.out.1
                · rw [HNN.out]; exact HLV.out
                · rw [HNN.out]; exact HLI.out
end Go.Proofs.YthhaopdimilmcaaDoor
