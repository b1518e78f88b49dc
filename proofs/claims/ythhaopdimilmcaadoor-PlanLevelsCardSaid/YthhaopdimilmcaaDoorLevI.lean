/- The program's Level. -/
import Derived.Test.YthhaopdimilmcaaDoorLevH
import Derived.Deep.DeepCutAuto
namespace Go.Proofs.YthhaopdimilmcaaDoor
open Go.RowKit
def HaveOk (hn : Nat) (hv : Nat → Int) : Prop := hn ≤ 8 ∧ ∀ r, r < hn → 0 ≤ hv r
def Clash (T : Plan) (hn : Nat) (hv : Nat → Int) (i r : Nat) : Prop := (hn ≤ r ∧ 0 < T.us i r) ∨ (r < hn ∧ hv r < T.us i r)
def NoClash (T : Plan) (hn : Nat) (hv : Nat → Int) (m : Nat) : Prop := ∀ i, i < m → ∀ r, r < T.uc i → ¬ Clash T hn hv i r
/-- What Level answers. -/
def LevelR (T : Plan) (hn : Nat) (hv : Nat → Int) (w : World) (e : Ending) (w' : World) : Prop := Below w.heap.size w w' ∧ (
  (T.chk ≠ 0 ∧ e = .returned (.tuple #[.slice none 0 0, errV T.chk])) ∨
  (T.chk = 0 ∧ ¬ HaveOk hn hv ∧ e = .returned (.tuple #[.slice none 0 0, errV 1])) ∨
  (T.chk = 0 ∧ HaveOk hn hv ∧ ¬ NoClash T hn hv T.n ∧ e = .returned (.tuple #[.slice none 0 0, errV 17])) ∨
  (T.chk = 0 ∧ HaveOk hn hv ∧ NoClash T hn hv T.n ∧ ∃ B f t z s q, e = .returned (.tuple #[.slice (some ⟨B, 0, none⟩) T.n T.n, .nilIface]) ∧ w.heap.size ≤ B ∧ OwnS w' B T.n f t ∧ Plan.Fix T s ∧ Plan.Latest T (Plan.last T s T.n) q ∧ Lev T hn hv q T.n f t z ∧ LevI T hn hv T.n f t z))
theorem errV17 : errV 17 = .iface 25 (.int .i64 17) := rfl
/-- Levelling under way, in memory. -/
def LvM (w0 : World) (X K : Nat) (oa : Option Addr) (n cap : Nat) (oh : Option Addr) (hn hc B I : Nat) (f t : Nat → Int) (z : Nat → Bool) (wr : World) : Prop :=
  (X < wr.heap.size ∧ wr.cell? ⟨X, 0, none⟩ = some (.pointer (some ⟨K, 0, none⟩))) ∧ LevB wr K oa n cap oh hn hc B I ∧ OwnS wr B n f t ∧ OwnI wr I n (inZ z) ∧ Below w0.heap.size w0 wr
theorem LvM.call {w0 : World} {X K : Nat} {oa : Option Addr} {n cap : Nat} {oh : Option Addr} {hn hc B I : Nat} {f t : Nat → Int} {z : Nat → Bool} {wr w' : World} (h : LvM w0 X K oa n cap oh hn hc B I f t z wr) (hb : Below wr.heap.size wr w') : LvM w0 X K oa n cap oh hn hc B I f t z w' :=
  ⟨⟨Nat.lt_of_lt_of_le h.1.1 hb.size, (hb.cell (p := ⟨X, 0, none⟩) h.1.1).trans h.1.2⟩, h.2.1.call hb, h.2.2.1.call hb, h.2.2.2.1.call hb, thenB h.2.2.2.2 hb⟩
/-- The blocks of a levelling lie apart, none of them old. -/
def LvA (w0 : World) (X K B I : Nat) : Prop := X ≠ B ∧ X ≠ I ∧ K ≠ B ∧ K ≠ I ∧ B ≠ I ∧ w0.heap.size ≤ X ∧ w0.heap.size ≤ K ∧ w0.heap.size ≤ B ∧ w0.heap.size ≤ I
theorem LvM.place {w0 : World} {X K : Nat} {oa : Option Addr} {n cap : Nat} {oh : Option Addr} {hn hc B I : Nat} {f t : Nat → Int} {z : Nat → Bool} {wr : World} (hA : LvA w0 X K B I) (h : LvM w0 X K oa n cap oh hn hc B I f t z wr) {T : Plan} {hv : Nat → Int} {M : Int} {i : Nat} {e : Ending} {w' : World} (hp : PlaceR T B I n hn hv f t z M i w0.heap.size wr e w') :
    ∃ s, Srch (FitP T f t z n hn hv i) (fun x => laterF f t z x n) (T.mx f i (T.lc i)) s ∧ s ≤ M + 3000000 ∧ LvM w0 X K oa n cap oh hn hc B I (Plan.upd f i s) (Plan.upd t i (s + T.len i)) (updZ z i) w' := by
  obtain ⟨_, s, h1, h2, h3, h4, h5, h6⟩ := hp
  obtain ⟨a1, a2, a3, a4, _⟩ := hA
  obtain ⟨⟨b1, b2⟩, ⟨c0, c1, c2, c3, c4⟩, _, _, h7⟩ := h
  have hz := h6.size
  exact ⟨s, h1, h2, ⟨Nat.lt_of_lt_of_le b1 hz, h5 _ _ a1 a2 b2⟩, ⟨Nat.lt_of_lt_of_le c0 hz, h5 ⟨K, 0, none⟩ _ a3 a4 c1, h5 ⟨K, 1, none⟩ _ a3 a4 c2, h5 ⟨K, 2, none⟩ _ a3 a4 c3, h5 ⟨K, 3, none⟩ _ a3 a4 c4⟩, h3, h4, h7.trans h6⟩
theorem inZ_none : inZ (fun _ => false) = fun _ => 0 := by funext j; rfl
theorem use_have {T : Plan} {hn : Nat} {hv : Nat → Int} (h0 : HaveOk hn hv) (h : NoClash T hn hv T.n) (i : Nat) : ∀ r, r < hn → T.use i r ≤ hv r := by
  intro r hr
  have h1 := h0.2 r hr
  unfold Plan.use
  by_cases hh : i < T.n ∧ r < T.uc i
  · rw [if_pos hh]
    have h2 := h i hh.1 r hh.2
    refine Classical.byContradiction fun hn => h2 (.inr ⟨hr, by omega⟩)
  · rw [if_neg hh]; exact h1
theorem LvM.made {w0 wx : World} {X K : Nat} {oa : Option Addr} {n cap : Nat} {oh : Option Addr} {hn hc B I : Nat} (hX : X < wx.heap.size) (x0 : wx.cell? ⟨X, 0, none⟩ = some (.pointer (some ⟨K, 0, none⟩))) (hK : K < wx.heap.size) (k0 : wx.cell? ⟨K, 0, none⟩ = some (.slice oa n cap)) (k1 : wx.cell? ⟨K, 1, none⟩ = some (.slice oh hn hc)) (k2 : wx.cell? ⟨K, 2, none⟩ = some (.slice (some ⟨B, 0, none⟩) n n)) (k3 : wx.cell? ⟨K, 3, none⟩ = some (.slice (some ⟨I, 0, none⟩) n n))
    (hB : B < wx.heap.size) (hI : I < wx.heap.size) (b0 : ∀ i, i < n * 2 → wx.cell? ⟨B, i, none⟩ = some (.int .i64 0)) (b1 : ∀ i, wx.frozen? ⟨B, i, none⟩ = false) (i0 : ∀ i, i < n → wx.cell? ⟨I, i, none⟩ = some (.int .i64 0)) (i1 : ∀ i, wx.frozen? ⟨I, i, none⟩ = false) (hb : Below w0.heap.size w0 wx) :
    LvM w0 X K oa n cap oh hn hc B I (fun _ => 0) (fun _ => 0) (fun _ => false) wx :=
  ⟨⟨hX, x0⟩, ⟨hK, k0, k1, k2, k3⟩, ⟨hB, fun j hj => ⟨⟨b0 _ (by omega), b1 _⟩, b0 _ (by omega), b1 _⟩⟩, by rw [inZ_none]; exact ⟨hI, fun j hj => ⟨i0 j hj, i1 j⟩⟩, hb⟩
set_option maxRecDepth 100000 in
set_option maxHeartbeats 16000000 in
theorem level_any (oa : Option Addr) (cap : Nat) (AL AU : Nat → Option Addr) (CL CU : Nat → Nat) (T : Plan) (oh : Option Addr) (hn hc : Nat) (hv : Nat → Int) (w : World) (hn0 : T.n ≤ 9223372036854775807) (hlc : ∀ i, i < T.n → T.lc i ≤ 9223372036854775807 ∧ T.uc i ≤ 9223372036854775807) (hh6 : hn ≤ 1000000) (hR : PlanR w oa AL AU CL CU T) (hH : IntsR w oh hn hv) :
    Calls Tryd.prog 37 #[.slice oa T.n cap, .slice oh hn hc] w (LevelR T hn hv w) := by
  have hend := end_any oa cap AL AU CL CU T w hn0 hlc hR
  have hlate : ∀ y w', PlanR w' oa AL AU CL CU T → Calls Tryd.prog 31 #[.slice oa T.n cap, .int .i64 y] w' (LateR T y w') := fun y w' h => late_any oa cap AL AU CL CU T y w' hn0 hlc h
  have HR := Lib.hid hR
  have HH := Lib.hid hH
  clear hR hH hn0 hlc
  obtain ⟨n, hnn⟩ : ∃ x, T.n = x := ⟨_, rfl⟩
  have HNN := Lib.hid hnn
  rw [hnn] at hend hlate ⊢
  have HLA := Lib.hid hlate
  clear hnn hlate
  go_enter Tryd.func37, Tryd.ntmps37
  go_wp2_with fail
  refine hend.mono ?_
  clear hend
  rintro e w1 ⟨hb1, (⟨hc1, rfl⟩ | ⟨hc1, s, rfl, hF, hbd⟩)⟩
  · have HB1 := Lib.hid hb1
    have HC := Lib.hid hc1
    have HV := Lib.hid (chk_pos hc1)
    clear hb1 hc1
    rw [HV.out]
    go_wp2_with fail
    go_ret2
    exact ⟨HB1.out, .inl ⟨HC.out, by rw [HV.out]; rfl⟩⟩
  · have HB1 := Lib.hid hb1
    have HC := Lib.hid hc1
    have HOK := Lib.hid (Plan.chk_ok hc1)
    have HF := Lib.hid hF
    have hn6 : n ≤ 60 := by rw [← HNN.out]; exact HOK.out.size
    have hEb := last_bd HOK.out hbd T.n (Nat.le_refl _)
    obtain ⟨E, hE⟩ : ∃ x, Plan.last T s T.n = x := ⟨_, rfl⟩
    rw [hE] at hEb ⊢
    have HE := Lib.hid hE
    clear hb1 hc1 hF hbd hE
    by_cases h8 : 8 < hn
    · have hd8 : decide ((8 : Int) < (hn : Int)) = true := decide_eq_true (by omega)
      go_wp2_with fail
      go_ret2
      exact ⟨HB1.out, .inr (.inl ⟨HC.out, fun h => by have := h.1; omega, rfl⟩)⟩
    have hd8 : decide ((8 : Int) < (hn : Int)) = false := decide_eq_false (by omega)
    obtain ⟨b, hb⟩ : ∃ b : Bool, (b = true ↔ ∃ j, j < hn ∧ decide (hv j < 0) = true) := ⟨open Classical in decide (∃ j, j < hn ∧ decide (hv j < 0) = true), by simp⟩
    have HBB := Lib.hid hb
    clear hb
    have hcon := intContains_any oh hn hc hv 47 #[] (fun j => decide (hv j < 0)) b w1 hh6 (HH.out.call HB1.out) enter_level1 (fun j _ w' _ => by rw [Array.append_empty]; exact level1_any (hv j) w') HBB.out
    go_wp2_with fail
    refine hcon.mono ?_
    clear hcon
    rintro e w2 ⟨rfl, hb2⟩
    have HB2 := Lib.hid (thenB HB1.out hb2)
    clear hb2
    cases b with
    | true =>
      go_wp2_with fail
      go_ret2
      refine ⟨HB2.out, .inr (.inl ⟨HC.out, fun h => ?_, rfl⟩)⟩
      obtain ⟨j, hj, hlt⟩ := HBB.out.1 (by simp)
      have := h.2 j hj
      have := of_decide_eq_true hlt
      omega
    | false =>
    have HHV := Lib.hid (show HaveOk hn hv from ⟨by omega, fun r hr => Classical.byContradiction fun hlt => Bool.noConfusion (HBB.out.2 ⟨r, hr, decide_eq_true (by omega)⟩)⟩)
    clear HBB
    go_wp2_with fail
    go_loopw [36] (fun c wr => ∃ i : Nat, c = .int .i64 (i : Int) ∧ i ≤ n ∧ Hid (NoClash T hn hv i) ∧ Hid (Below w.heap.size w wr)) (fun c _ => n - (intOf c).toNat)
    case atStart => exact ⟨0, rfl, by omega, Lib.hid fun i hi => absurd hi (Nat.not_lt_zero i), HB2⟩
    case round =>
      clear HB2
      obtain ⟨i, rfl, hi, HNC, HW⟩ := hrel
      obtain ⟨wA, rfl⟩ : ∃ wo : World, wo = wr := ⟨_, rfl⟩
      by_cases hin : i < n
      · have HIN := Lib.hid (show i < T.n by rw [HNN.out]; exact hin)
        have HRA := Lib.hid (HR.out.call HW.out)
        obtain ⟨a, rfl⟩ := HRA.out.1 (by rw [HNN.out]; omega)
        obtain ⟨c0, c1, c2, c3⟩ := HRA.out.at HIN.out
        have hucb := (HOK.out.task i HIN.out).head.2.2.2
        obtain ⟨L, hL⟩ : ∃ x, T.len i = x := ⟨_, rfl⟩
        obtain ⟨Nb, hNb⟩ : ∃ x, T.nb i = x := ⟨_, rfl⟩
        obtain ⟨lc, hlcE⟩ : ∃ x, T.lc i = x := ⟨_, rfl⟩
        obtain ⟨uc, hucE⟩ : ∃ x, T.uc i = x := ⟨_, rfl⟩
        obtain ⟨al, hal⟩ : ∃ x, AL i = x := ⟨_, rfl⟩
        obtain ⟨au, hau⟩ : ∃ x, AU i = x := ⟨_, rfl⟩
        obtain ⟨cl, hcl⟩ : ∃ x, CL i = x := ⟨_, rfl⟩
        obtain ⟨cu, hcu⟩ : ∃ x, CU i = x := ⟨_, rfl⟩
        rw [hL] at c0
        rw [hNb] at c1
        rw [hal, hlcE, hcl] at c2
        rw [hau, hucE, hcu] at c3
        rw [hucE] at hucb
        have HE2 := Lib.hid (And.intro hucE hau)
        have i1 : (0 : Int) ≤ (i : Int) := by omega
        have i2 : (i : Int) < (n : Int) := by omega
        have hab := World.block_lt_of_cell? _ _ c0
        have HWA := Lib.hid (HW.out.alloc HW.out.size (.cells #[.int .i64 L, .int .i64 Nb, .slice al lc cl, .slice au uc cu] 34))
        clear hL hNb hlcE hucE hal hau hcl hcu
        go_wp2_with fail
        clear c0 c1 c2 c3 hab
        go_loopw [43] (fun c wr => ∃ r : Nat, c = .int .i64 (r : Int) ∧ r ≤ uc ∧ Hid (∀ r', r' < r → ¬ Clash T hn hv i r') ∧ Hid (Below w.heap.size w wr)) (fun c _ => uc - (intOf c).toNat)
        case atStart => exact ⟨0, rfl, by omega, Lib.hid fun r hr => absurd hr (Nat.not_lt_zero r), HWA⟩
        case round =>
          clear HWA
          obtain ⟨r, rfl, hr, HNR, HWB⟩ := hrel
          obtain ⟨wB, rfl⟩ : ∃ wo : World, wo = wr := ⟨_, rfl⟩
          by_cases hru : r < uc
          · have HU := HR.out.call HWB.out |>.ints HIN.out
            rw [HE2.out.1, HE2.out.2] at HU
            obtain ⟨ub, rfl⟩ := HU.1 (by omega)
            have hcu := HU.at hru
            have hub := World.block_lt_of_cell? _ _ hcu
            obtain ⟨U, hUE⟩ : ∃ x, T.us i r = x := ⟨_, rfl⟩
            rw [hUE] at hcu
            have HUE := Lib.hid hUE
            have r1 : (0 : Int) ≤ (r : Int) := by omega
            have r2 : (r : Int) < (uc : Int) := by omega
            clear HU hUE
            by_cases hrh : r < hn
            · have HRH := Lib.hid hrh
              have d1 : decide ((hn : Int) ≤ (r : Int)) = false := decide_eq_false (by omega)
              have d2 : decide ((r : Int) < (hn : Int)) = true := decide_eq_true (by omega)
              have r3 : (r : Int) < (hn : Int) := by omega
              have HHB := HH.out.call HWB.out
              obtain ⟨bh, rfl⟩ := HHB.1 (by omega)
              have chh := HHB.at hrh
              have hbb := World.block_lt_of_cell? _ _ chh
              obtain ⟨V, hV⟩ : ∃ x, hv r = x := ⟨_, rfl⟩
              rw [hV] at chh
              have HV := Lib.hid hV
              clear HHB hV hrh
              by_cases hgt : V < U
              · have d3 : decide (V < U) = true := decide_eq_true hgt
                have HGT := Lib.hid hgt
                clear hgt
                go_wp2_with fail
                go_ret2
                exact ⟨HWB.out, .inr (.inr (.inl ⟨HC.out, HHV.out, fun h => h i HIN.out r (by rw [HE2.out.1]; exact hru) (.inr ⟨HRH.out, by rw [HUE.out, HV.out]; exact HGT.out⟩), rfl⟩))⟩
              · have d3 : decide (V < U) = false := decide_eq_false hgt
                have HGT := Lib.hid hgt
                clear hgt
                go_wp2_with fail
                go_roundw
                case rel =>
                  refine ⟨r + 1, by go_num, by omega, Lib.hid fun r' hr' => ?_, HWB⟩
                  by_cases e : r' = r
                  · subst e
                    rintro (⟨h, _⟩ | ⟨_, h⟩)
                    · have := HRH.out; omega
                    · rw [HUE.out, HV.out] at h; exact HGT.out h
                  · exact HNR.out r' (by omega)
                case measure => simp [intOf]; omega
            · have HRH := Lib.hid hrh
              have d1 : decide ((hn : Int) ≤ (r : Int)) = true := decide_eq_true (by omega)
              have d2 : decide ((r : Int) < (hn : Int)) = false := decide_eq_false (by omega)
              clear hrh
              by_cases hgt : 0 < U
              · have d3 : decide (0 < U) = true := decide_eq_true hgt
                have HGT := Lib.hid hgt
                clear hgt
                go_wp2_with fail
                go_ret2
                exact ⟨HWB.out, .inr (.inr (.inl ⟨HC.out, HHV.out, fun h => h i HIN.out r (by rw [HE2.out.1]; exact hru) (.inl ⟨by have := HRH.out; omega, by rw [HUE.out]; exact HGT.out⟩), rfl⟩))⟩
              · have d3 : decide (0 < U) = false := decide_eq_false hgt
                have HGT := Lib.hid hgt
                clear hgt
                go_wp2_with fail
                go_roundw
                case rel =>
                  refine ⟨r + 1, by go_num, by omega, Lib.hid fun r' hr' => ?_, HWB⟩
                  by_cases e : r' = r
                  · subst e
                    rintro (⟨_, h⟩ | ⟨h, _⟩)
                    · rw [HUE.out] at h; exact HGT.out h
                    · exact HRH.out h
                  · exact HNR.out r' (by omega)
                case measure => simp [intOf]; omega
          · obtain rfl : uc = r := by omega
            go_wp2_with fail
            go_roundw
            case rel =>
              refine ⟨i + 1, by go_num, by omega, Lib.hid fun i' hi' => ?_, HWB⟩
              by_cases e : i' = i
              · subst e
                intro r' hr'
                exact HNR.out r' (by rw [HE2.out.1] at hr'; exact hr')
              · exact HNC.out i' (by omega)
            case measure => simp [intOf]; omega
      · obtain rfl : n = i := by omega
        have HNC2 := Lib.hid (show NoClash T hn hv T.n by rw [HNN.out]; exact HNC.out)
        clear HNC
        go_wp2_with fail
        refine (HLA.out E wA (HR.out.call HW.out)).mono ?_
        rintro e w3 ⟨hb3, (⟨hc3, rfl⟩ | ⟨_, s3, hF3, ⟨h3, rfl⟩ | ⟨h3, h4, rfl⟩ | ⟨_, _, B3, q, rfl, hB3, hQ, hL3, hbd3⟩⟩)⟩
        · exact absurd HC.out hc3
        · rw [Plan.last_congr (T := T) T.n (Plan.Fix.unique HOK.out.full hF3 HF.out), HE.out] at h3
          omega
        · omega
        rw [HNN.out] at hQ ⊢
        have HQ := Lib.hid hQ
        have HL := Lib.hid hL3
        have HB3 := Lib.hid (thenB HW.out hb3)
        have HPL := Lib.hid (show Plan.Latest T (Plan.last T s T.n) q from by
          rw [HE.out]; exact hL3)
        clear hF3 hB3 hQ hL3 hbd3 hb3 HW
        obtain ⟨MS, hMS, hmakeS⟩ := make_spans n (by omega)
        obtain ⟨MI, hMI, hmakeI⟩ := make_ints n (by omega)
        have HMS := Lib.hid hMS
        have HMI := Lib.hid hMI
        clear hMS hMI
        go_upto_region 19 with fail
        go_cut [13] (fun s13 wx => ∃ X K I B : Nat, s13 = .pointer (some ⟨X, 0, none⟩) ∧ Hid (LvA w3 X K B I) ∧ Hid (LvM w3 X K oa n cap oh hn hc B I (fun _ => 0) (fun _ => 0) (fun _ => false) wx))
        case first =>
          go_region
          all_goals (go_wp2_with fail; go_meet)
          all_goals first
            | ((refine ⟨w3.heap.size, w3.heap.size + 1 + 1 + 1, w3.heap.size + 1 + 1, w3.heap.size + 1, rfl, Lib.hid ?_, Lib.hid (LvM.made ?_ ?_ ?_ ?_ ?_ ?_ ?_ ?_ ?_ ?_ ?_ ?_ ?_ ?_)⟩) <;> first | (unfold LvA; omega) | (simp [go_sem]; done) | (simp; omega) | (intro i hi; simp [go_sem, HMS.out i hi]; done) | (intro i hi; simp [go_sem, HMI.out i hi]; done) | (intro i; simp [go_sem]; done) | exact below_drew ((((Below.alloc (Below.refl _ _) (Nat.le_refl _) _).alloc (by simp) _).alloc (by simp <;> omega) _).alloc (by simp <;> omega) _))
            | ((refine ⟨w3.heap.size, w3.heap.size + 1 + 1 + 1, w3.heap.size + 1, w3.heap.size + 1 + 1, rfl, Lib.hid ?_, Lib.hid (LvM.made ?_ ?_ ?_ ?_ ?_ ?_ ?_ ?_ ?_ ?_ ?_ ?_ ?_ ?_)⟩) <;> first | (unfold LvA; omega) | (simp [go_sem]; done) | (simp; omega) | (intro i hi; simp [go_sem, HMS.out i hi]; done) | (intro i hi; simp [go_sem, HMI.out i hi]; done) | (intro i; simp [go_sem]; done) | exact below_drew ((((Below.alloc (Below.refl _ _) (Nat.le_refl _) _).alloc (by simp) _).alloc (by simp <;> omega) _).alloc (by simp <;> omega) _))
            | ((refine ⟨w3.heap.size + 1, w3.heap.size + 1 + 1 + 1, w3.heap.size + 1 + 1, w3.heap.size, rfl, Lib.hid ?_, Lib.hid (LvM.made ?_ ?_ ?_ ?_ ?_ ?_ ?_ ?_ ?_ ?_ ?_ ?_ ?_ ?_)⟩) <;> first | (unfold LvA; omega) | (simp [go_sem]; done) | (simp; omega) | (intro i hi; simp [go_sem, HMS.out i hi]; done) | (intro i hi; simp [go_sem, HMI.out i hi]; done) | (intro i; simp [go_sem]; done) | exact below_drew ((((Below.alloc (Below.refl _ _) (Nat.le_refl _) _).alloc (by simp) _).alloc (by simp <;> omega) _).alloc (by simp <;> omega) _))
            | ((refine ⟨w3.heap.size + 1 + 1, w3.heap.size + 1 + 1 + 1, w3.heap.size + 1, w3.heap.size, rfl, Lib.hid ?_, Lib.hid (LvM.made ?_ ?_ ?_ ?_ ?_ ?_ ?_ ?_ ?_ ?_ ?_ ?_ ?_ ?_)⟩) <;> first | (unfold LvA; omega) | (simp [go_sem]; done) | (simp; omega) | (intro i hi; simp [go_sem, HMS.out i hi]; done) | (intro i hi; simp [go_sem, HMI.out i hi]; done) | (intro i; simp [go_sem]; done) | exact below_drew ((((Below.alloc (Below.refl _ _) (Nat.le_refl _) _).alloc (by simp) _).alloc (by simp <;> omega) _).alloc (by simp <;> omega) _))
            | ((refine ⟨w3.heap.size + 1 + 1 + 1, w3.heap.size + 1 + 1, w3.heap.size + 1, w3.heap.size, rfl, Lib.hid ?_, Lib.hid (LvM.made ?_ ?_ ?_ ?_ ?_ ?_ ?_ ?_ ?_ ?_ ?_ ?_ ?_ ?_)⟩) <;> first | (unfold LvA; omega) | (simp [go_sem]; done) | (simp; omega) | (intro i hi; simp [go_sem, HMS.out i hi]; done) | (intro i hi; simp [go_sem, HMI.out i hi]; done) | (intro i; simp [go_sem]; done) | exact below_drew ((((Below.alloc (Below.refl _ _) (Nat.le_refl _) _).alloc (by simp) _).alloc (by simp <;> omega) _).alloc (by simp <;> omega) _))
            | ((refine ⟨w3.heap.size + 1, w3.heap.size + 1 + 1 + 1, w3.heap.size, w3.heap.size + 1 + 1, rfl, Lib.hid ?_, Lib.hid (LvM.made ?_ ?_ ?_ ?_ ?_ ?_ ?_ ?_ ?_ ?_ ?_ ?_ ?_ ?_)⟩) <;> first | (unfold LvA; omega) | (simp [go_sem]; done) | (simp; omega) | (intro i hi; simp [go_sem, HMS.out i hi]; done) | (intro i hi; simp [go_sem, HMI.out i hi]; done) | (intro i; simp [go_sem]; done) | exact below_drew ((((Below.alloc (Below.refl _ _) (Nat.le_refl _) _).alloc (by simp) _).alloc (by simp <;> omega) _).alloc (by simp <;> omega) _))
            | ((refine ⟨w3.heap.size + 1 + 1, w3.heap.size + 1 + 1 + 1, w3.heap.size, w3.heap.size + 1, rfl, Lib.hid ?_, Lib.hid (LvM.made ?_ ?_ ?_ ?_ ?_ ?_ ?_ ?_ ?_ ?_ ?_ ?_ ?_ ?_)⟩) <;> first | (unfold LvA; omega) | (simp [go_sem]; done) | (simp; omega) | (intro i hi; simp [go_sem, HMS.out i hi]; done) | (intro i hi; simp [go_sem, HMI.out i hi]; done) | (intro i; simp [go_sem]; done) | exact below_drew ((((Below.alloc (Below.refl _ _) (Nat.le_refl _) _).alloc (by simp) _).alloc (by simp <;> omega) _).alloc (by simp <;> omega) _))
            | ((refine ⟨w3.heap.size + 1 + 1 + 1, w3.heap.size + 1 + 1, w3.heap.size, w3.heap.size + 1, rfl, Lib.hid ?_, Lib.hid (LvM.made ?_ ?_ ?_ ?_ ?_ ?_ ?_ ?_ ?_ ?_ ?_ ?_ ?_ ?_)⟩) <;> first | (unfold LvA; omega) | (simp [go_sem]; done) | (simp; omega) | (intro i hi; simp [go_sem, HMS.out i hi]; done) | (intro i hi; simp [go_sem, HMI.out i hi]; done) | (intro i; simp [go_sem]; done) | exact below_drew ((((Below.alloc (Below.refl _ _) (Nat.le_refl _) _).alloc (by simp) _).alloc (by simp <;> omega) _).alloc (by simp <;> omega) _))
        case rest =>
          obtain ⟨X, K, I, B, rfl, HA, HM0⟩ := hcut
          have HSZ := Lib.hid (show w3.heap.size ≤ wc.heap.size from HM0.out.2.2.2.2.size)
          clear hmakeS hmakeI HMS HMI
          go_wp2_with fail
          go_loopw [94] (fun c wr => ∃ (p : Nat) (f t : Nat → Int) (z : Nat → Bool), c = .int .i64 (p : Int) ∧ p ≤ n ∧ Hid (Lev T hn hv q p f t z) ∧ Hid (LevI T hn hv p f t z) ∧ Hid (LvM w3 X K oa n cap oh hn hc B I f t z wr)) (fun c _ => n - (intOf c).toNat)
          case atStart => exact ⟨0, _, _, _, rfl, by omega, Lib.hid .start, Lib.hid (LevI.start HHV.out.2), HM0⟩
          case round =>
            clear HM0
            obtain ⟨p, f, t, z, rfl, hp, HLV, HLI, HM⟩ := hrel
            obtain ⟨wD, rfl⟩ : ∃ wo : World, wo = wr := ⟨_, rfl⟩
            by_cases hpn : p < n
            · go_wp2_with fail
              go_loopw [14, 98] (fun nx c wr => ∃ (N : Int) (k : Nat), nx = .int .i64 N ∧ c = .int .i64 (k : Int) ∧ k ≤ n ∧ Hid (N = pickI T q z k) ∧ Hid (LvM w3 X K oa n cap oh hn hc B I f t z wr)) (fun _ c _ => n - (intOf c).toNat)
              case atStart => exact ⟨-1, 0, rfl, rfl, by omega, Lib.hid rfl, HM⟩
              case round =>
                clear HM
                obtain ⟨N, k, rfl, rfl, hk, HN, HM⟩ := hrel
                obtain ⟨wE, rfl⟩ : ∃ wo : World, wo = wr := ⟨_, rfl⟩
                by_cases hkn : k < n
                · have HIN := Lib.hid (show k < T.n by rw [HNN.out]; exact hkn)
                  have HBE := Lib.hid (thenB HB3.out HM.out.2.2.2.2)
                  have HRA := Lib.hid (HR.out.call HBE.out)
                  obtain ⟨a, rfl⟩ := HRA.out.1 (by rw [HNN.out]; omega)
                  obtain ⟨c0, c1, c2, c3⟩ := HRA.out.at HIN.out
                  have HTK := Lib.hid (HOK.out.task k HIN.out)
                  have hlcb := HTK.out.head.2.2.1
                  have HLN := Lib.hid (show ∀ j, j < T.lc k → T.to k j < n ∧ T.lt k j = (T.to k j : Int) from fun j hj => by
                    have := Plan.to_lt HOK.out HIN.out hj
                    rw [HNN.out] at this
                    exact ⟨this.1, this.2.2⟩)
                  obtain ⟨L, hL⟩ : ∃ x, T.len k = x := ⟨_, rfl⟩
                  obtain ⟨Nb, hNb⟩ : ∃ x, T.nb k = x := ⟨_, rfl⟩
                  obtain ⟨lc, hlcE⟩ : ∃ x, T.lc k = x := ⟨_, rfl⟩
                  obtain ⟨uc, hucE⟩ : ∃ x, T.uc k = x := ⟨_, rfl⟩
                  obtain ⟨al, hal⟩ : ∃ x, AL k = x := ⟨_, rfl⟩
                  obtain ⟨au, hau⟩ : ∃ x, AU k = x := ⟨_, rfl⟩
                  obtain ⟨cl, hcl⟩ : ∃ x, CL k = x := ⟨_, rfl⟩
                  obtain ⟨cu, hcu⟩ : ∃ x, CU k = x := ⟨_, rfl⟩
                  rw [hL] at c0
                  rw [hNb] at c1
                  rw [hal, hlcE, hcl] at c2
                  rw [hau, hucE, hcu] at c3
                  rw [hlcE] at hlcb
                  have HE2 := Lib.hid (And.intro hlcE hal)
                  have i1 : (0 : Int) ≤ (k : Int) := by omega
                  have i2 : (k : Int) < (n : Int) := by omega
                  have hab := World.block_lt_of_cell? _ _ c0
                  have HMA := Lib.hid (HM.out.call (Below.alloc (Below.refl _ _) (Nat.le_refl _) (.cells #[.int .i64 L, .int .i64 Nb, .slice al lc cl, .slice au uc cu] 34)))
                  obtain ⟨⟨x1, x2⟩, ⟨k0, -, -, -, k4⟩, -, ⟨o1, o2⟩, -⟩ := HM.out
                  obtain ⟨o3, -⟩ := o2 k hkn
                  clear o2 hL hNb hlcE hucE hal hau hcl hcu
                  have hstep : pickI T q z (k + 1) = if Ready T z k ∧ (pickI T q z k < 0 ∨ q k < q (pickI T q z k).toNat) then (k : Int) else pickI T q z k := rfl
                  rw [← HN.out] at hstep
                  have HST := Lib.hid hstep
                  clear hstep
                  by_cases hz : z k = true
                  · have e1 : inZ z k = 1 := if_pos hz
                    rw [e1] at o3
                    have HNR := Lib.hid (show ¬ Ready T z k from fun h => by rw [h.1] at hz; exact Bool.noConfusion hz)
                    clear hz e1
                    go_wp2_with fail
                    go_quiet (fail)
                    go_wp2_with fail
                    go_roundw
                    case rel => exact ⟨N, k + 1, rfl, by go_num, by omega, Lib.hid (by rw [HST.out, if_neg (fun h => HNR.out h.1)]), Lib.hid (HMA.out.call (by with_reducible first | exact below_drew (Below.refl _ _) | exact below_drewN (Below.refl _ _) _))⟩
                    case measure => simp [intOf]; omega
                  · have hz2 : z k = false := by simpa using hz
                    have e1 : inZ z k = 0 := if_neg hz
                    rw [e1] at o3
                    have HZ := Lib.hid hz2
                    obtain ⟨b, hb⟩ : ∃ b : Bool, (b = true ↔ ∃ j, j < lc ∧ (!z (T.to k j)) = true) := ⟨open Classical in decide (∃ j, j < lc ∧ (!z (T.to k j)) = true), by simp⟩
                    have HBB := Lib.hid hb
                    have hLK := HMA.out.2.2.2.2 |> fun h => ((HR.out.call (thenB HB3.out h)).links HIN.out)
                    rw [HE2.out.1, HE2.out.2] at hLK
                    have hcon := linkContains_any al lc cl (T.lt k) (T.lk k) (T.lg k) 49 #[.pointer (some ⟨X, 0, none⟩)] (fun j => !z (T.to k j)) b (wE.alloc (.cells #[.int .i64 L, .int .i64 Nb, .slice al lc cl, .slice au uc cu] 34)) (by omega) hLK enter_level2
                      (fun j hj w' hb => by
                        have hj2 : j < T.lc k := by rw [HE2.out.1]; exact hj
                        have hl := HLN.out j hj2
                        have hm := HMA.out.call hb
                        rw [hl.2]
                        exact level2_any (T.lk k j) (T.lg k j) X K I (T.to k j) n z w' hm.1.2 hm.2.1.2.2.2.2 hm.2.2.2.1 hl.1) HBB.out
                    clear hz hz2 e1 hb hLK
                    go_wp2_with fail
                    refine hcon.mono ?_
                    clear hcon
                    rintro e wF ⟨rfl, hbF⟩
                    have HMF := Lib.hid (HMA.out.call hbF)
                    clear hbF c0 c1 c2 c3 hab x1 x2 k0 k4 o1 o3
                    cases b with
                    | true =>
                      have HNR := Lib.hid (show ¬ Ready T z k from fun h => by
                        obtain ⟨j, h1, h2⟩ := HBB.out.1 (by simp)
                        rw [h.2 j (by rw [HE2.out.1]; exact h1)] at h2
                        exact Bool.noConfusion h2)
                      clear HBB
                      go_wp2_with fail
                      go_quiet (fail)
                      go_wp2_with fail
                      go_roundw
                      case rel => exact ⟨N, k + 1, rfl, by go_num, by omega, Lib.hid (by rw [HST.out, if_neg (fun h => HNR.out h.1)]), Lib.hid (HMF.out.call (by with_reducible first | exact below_drew (Below.refl _ _) | exact below_drewN (Below.refl _ _) _))⟩
                      case measure => simp [intOf]; omega
                    | false =>
                      have HRD := Lib.hid (show Ready T z k from ⟨HZ.out, fun j hj => Classical.byContradiction fun h => Bool.noConfusion (HBB.out.2 ⟨j, by rw [← HE2.out.1]; exact hj, by simpa using h⟩)⟩)
                      clear HBB
                      by_cases hN : N < 0
                      · have d1 : decide (N < 0) = true := decide_eq_true hN
                        have HNS := Lib.hid (show pickI T q z (k + 1) = (k : Int) by rw [HST.out, if_pos ⟨HRD.out, .inl hN⟩])
                        clear hN
                        go_wp2_with fail
                        go_quiet (fail)
                        go_wp2_with fail
                        go_roundw
                        case rel => exact ⟨(k : Int), k + 1, rfl, by go_num, by omega, Lib.hid HNS.out.symm, Lib.hid (HMF.out.call (by with_reducible first | exact below_drew (Below.refl _ _) | exact below_drewN (Below.refl _ _) _))⟩
                        case measure => simp [intOf]; omega
                      · obtain ⟨j, hj, hjN⟩ : ∃ j, j < k ∧ N = ((j : Nat) : Int) := by
                          rcases pickI_ways T q z k with ⟨h1, _⟩ | ⟨j, h1, h2, _⟩
                          · rw [← HN.out] at h1; omega
                          · exact ⟨j, h1, by rw [HN.out, h2]⟩
                        subst hjN
                        have d1 : decide ((j : Int) < 0) = false := decide_eq_false hN
                        have HS2 := Lib.hid (show pickI T q z (k + 1) = if q k < q j then (k : Int) else (j : Int) by
                          rw [HST.out, Int.toNat_natCast]
                          by_cases h : q k < q j
                          · rw [if_pos h, if_pos ⟨HRD.out, .inr h⟩]
                          · rw [if_neg h, if_neg (fun h2 => h2.2.elim hN h)])
                        have hQF := HQ.out.call HMF.out.2.2.2.2
                        obtain ⟨⟨s0, -⟩, -⟩ := hQF.2 k hkn
                        obtain ⟨⟨t0, -⟩, -⟩ := hQF.2 j (by omega)
                        have hq1 := hQF.1
                        obtain ⟨S, hS⟩ : ∃ x, q k = x := ⟨_, rfl⟩
                        obtain ⟨R, hR2⟩ : ∃ x, q j = x := ⟨_, rfl⟩
                        rw [hS] at s0
                        rw [hR2] at t0
                        rw [hS, hR2] at HS2
                        have j1 : (0 : Int) ≤ (j : Int) := by omega
                        have j2 : (j : Int) < (n : Int) := by omega
                        clear hQF hS hR2 hN
                        by_cases hlt : S < R
                        · have d2 : decide (S < R) = true := decide_eq_true hlt
                          have HNS := Lib.hid (show pickI T q z (k + 1) = (k : Int) by rw [HS2.out, if_pos hlt])
                          clear hlt HS2
                          go_wp2_with fail
                          go_quiet (fail)
                          go_wp2_with fail
                          go_roundw
                          case rel => exact ⟨(k : Int), k + 1, rfl, by go_num, by omega, Lib.hid HNS.out.symm, Lib.hid (HMF.out.call (by with_reducible first | exact below_drew (Below.refl _ _) | exact below_drewN (Below.refl _ _) _))⟩
                          case measure => simp [intOf]; omega
                        · have d2 : decide (S < R) = false := decide_eq_false hlt
                          have HNS := Lib.hid (show pickI T q z (k + 1) = (j : Int) by rw [HS2.out, if_neg hlt])
                          clear hlt HS2
                          go_wp2_with fail
                          go_quiet (fail)
                          go_wp2_with fail
                          go_roundw
                          case rel => exact ⟨(j : Int), k + 1, rfl, by go_num, by omega, Lib.hid HNS.out.symm, Lib.hid (HMF.out.call (by with_reducible first | exact below_drew (Below.refl _ _) | exact below_drewN (Below.refl _ _) _))⟩
                          case measure => simp [intOf]; omega
                · obtain rfl : n = k := by omega
                  obtain ⟨i, hi2, hpick, hrd⟩ := HLI.out.ready HOK.out (by rw [HNN.out]; exact hpn) q
                  rw [HNN.out] at hi2 hpick
                  rw [hpick] at HN
                  have hNi := HN.out
                  subst hNi
                  have HPK := Lib.hid hpick
                  obtain ⟨⟨x1, x2⟩, -⟩ := HM.out
                  have hbd2 := HLI.out.bd
                  have hA := HA.out
                  have hcall := place_any K oa n cap AL AU CL CU T oh hn hc B I w3.heap.size hv f t z (3000000 * (p : Int)) i wE HNN.out HOK.out hh6 hi2 (fun j r => use_bd HOK.out j r) (by omega)
                    (fun j hj hz => by
                      have h1 := hbd2 j (by rw [HNN.out]; exact hj) hz
                      have h2 := (HOK.out.task j (by rw [HNN.out]; exact hj)).head.1
                      omega) hrd.2 (use_have HHV.out HNC2.out i) hA.2.2.1 hA.2.2.2.2.1 hA.2.2.2.2.2.2.2.1 hA.2.2.2.2.2.2.2.2 (HR.out.call (thenB HB3.out HM.out.2.2.2.2)) (HH.out.call (thenB HB3.out HM.out.2.2.2.2)) HM.out.2.1 HM.out.2.2.1 HM.out.2.2.2.1
                  clear hpick HN hi2 hrd hbd2 hA
                  go_wp2_with fail
                  refine hcall.mono ?_
                  clear hcall
                  rintro e wF hpl
                  obtain ⟨v, rfl⟩ := hpl.1
                  obtain ⟨s2, hs1, hs2, hs3⟩ := HM.out.place HA.out hpl
                  have HLV2 := Lib.hid (Lev.step HLV.out (by rw [HNN.out]; exact HPK.out) (by rw [HNN.out]; exact hs1))
                  have HLI2 := Lib.hid (HLI.out.step HOK.out (fun j r => use_bd HOK.out j r) (q := q) (by rw [HNN.out]; exact HPK.out) (by rw [HNN.out]; exact hs1) hs2)
                  have HM2 := Lib.hid hs3
                  clear hpl hs1 hs2 hs3 x1 x2 HM
                  go_wp2_with fail
                  go_roundw
                  case rel => exact ⟨p + 1, _, _, _, by go_num, by omega, HLV2, HLI2, HM2⟩
                  case measure => simp [intOf]; omega
            · obtain rfl : n = p := by omega
              obtain ⟨⟨x1, x2⟩, ⟨kz, k0, k1, k2, k3⟩, -⟩ := HM.out
              go_wp2_with fail
              go_ret2
              refine ⟨thenB HB3.out HM.out.2.2.2.2, .inr (.inr (.inr ⟨HC.out, HHV.out, HNC2.out, B, f, t, z, s, q, by rw [HNN.out]; rfl, ?_, ?_, HF.out, HPL.out, ?_, ?_⟩))⟩
              · exact Nat.le_trans HB3.out.size HA.out.2.2.2.2.2.2.2.1
              · rw [HNN.out]; exact HM.out.2.2.1
              · rw [HNN.out]; exact HLV.out
              · rw [HNN.out]; exact HLI.out
end Go.Proofs.YthhaopdimilmcaaDoor
