/- The program's End; plain.PlanCheck, PlanEarly, PlanEnd. -/
import Derived.Test.YthhaopdimilmcaaDoorPlnF
namespace Go.Proofs.YthhaopdimilmcaaDoor
open Go.RowKit
theorem last_bd {T : Plan} (hT : T.Ok) {s : Nat → Int} (hs : ∀ i, i < T.n → 0 ≤ s i ∧ s i ≤ 121000000) : ∀ m, m ≤ T.n → 0 ≤ Plan.last T s m ∧ Plan.last T s m ≤ 122000000 := by
  intro m hm
  have h0 := (Plan.last_le (T := T) (s := s) m).1 (Int.le_refl _)
  refine ⟨h0.1, (Plan.last_le m).2 ⟨by omega, fun k hk => ?_⟩⟩
  have h1 := hs k (by omega)
  have h2 := (hT.task k (by omega)).head.1
  omega
/-- What End answers. -/
def EndR (T : Plan) (w : World) (e : Ending) (w' : World) : Prop := Below w.heap.size w w' ∧ ((T.chk ≠ 0 ∧ e = .returned (.tuple #[.int .i64 0, errV T.chk])) ∨ (T.chk = 0 ∧ ∃ s, e = .returned (.tuple #[.int .i64 (Plan.last T s T.n), .nilIface]) ∧ Plan.Fix T s ∧ ∀ i, i < T.n → 0 ≤ s i ∧ s i ≤ 121000000))
set_option maxRecDepth 100000 in
set_option maxHeartbeats 4000000 in
theorem end_any (oa : Option Addr) (cap : Nat) (AL AU : Nat → Option Addr) (CL CU : Nat → Nat) (T : Plan) (w : World) (hn : T.n ≤ 9223372036854775807) (hlc : ∀ i, i < T.n → T.lc i ≤ 9223372036854775807 ∧ T.uc i ≤ 9223372036854775807) (hR : PlanR w oa AL AU CL CU T) :
    Calls Tryd.prog 30 #[.slice oa T.n cap] w (EndR T w) := by
  have hearly := early_any oa cap AL AU CL CU T w hn hlc hR
  clear hR hn hlc
  obtain ⟨n, hnn⟩ : ∃ x, T.n = x := ⟨_, rfl⟩
  have HNN := Lib.hid hnn
  rw [hnn] at hearly ⊢
  clear hnn
  go_enter Tryd.func30, Tryd.ntmps30
  go_wp2_with fail
  refine hearly.mono ?_
  clear hearly
  rintro e w1 ⟨hb1, (⟨hc, rfl⟩ | ⟨hc, B, s, rfl, hB, hO, hF, hbd⟩)⟩
  · have HB1 := Lib.hid hb1
    have HC := Lib.hid hc
    have HV := Lib.hid (chk_pos hc)
    clear hb1 hc
    go_wp2_with fail
    refine wp_loop_rounds 1 ?_
    rw [rounds_succ]
    go_wp2_with fail
    go_ret2
    exact ⟨HB1.out, .inl ⟨HC.out, rfl⟩⟩
  · have hok := Plan.chk_ok hc
    have hn6 : n ≤ 60 := by rw [← HNN.out]; exact hok.size
    have HL := Lib.hid (last_bd hok hbd)
    have HB1 := Lib.hid hb1
    have HC := Lib.hid hc
    have HO := Lib.hid hO
    have HF := Lib.hid hF
    have HD := Lib.hid hbd
    have HOK := Lib.hid hok
    rw [HNN.out]
    clear hb1 hc hO hF hbd hok
    go_wp2_with fail
    go_loopw [6, 16] (fun f c wr => ∃ (F : Int) (k : Nat), f = .int .i64 F ∧ c = .int .i64 (k : Int) ∧ k ≤ n ∧ Hid (F = Plan.last T s k) ∧ Hid (Below w1.heap.size w1 wr)) (fun _ c _ => n - (intOf c).toNat)
    case atStart => exact ⟨0, 0, rfl, rfl, by omega, Lib.hid rfl, Lib.hid (Below.refl _ _)⟩
    case round =>
      obtain ⟨F, k, rfl, rfl, hk, HFL, HW⟩ := hrel
      by_cases hkn : k < n
      · have hO2 := HO.out.call HW.out
        obtain ⟨⟨c0, _⟩, c1, _⟩ := hO2.2 k (by rw [HNN.out]; exact hkn)
        have hb2 := (HD.out k (by rw [HNN.out]; exact hkn))
        have hb3 := (HOK.out.task k (by rw [HNN.out]; exact hkn)).head.1
        have hmx : Plan.last T s (k + 1) = max F (s k + T.len k) := by rw [HFL.out]; rfl
        obtain ⟨S, hS⟩ : ∃ x, s k = x := ⟨_, rfl⟩
        obtain ⟨L, hL⟩ : ∃ x, T.len k = x := ⟨_, rfl⟩
        rw [hS] at c0
        simp only [hS, hL] at c1 hmx
        have HMX := Lib.hid hmx
        have hwz := HW.out.size
        have HWA := Lib.hid (HW.out.alloc hwz (.cells #[.int .i64 S, .int .i64 (S + L)] 38))
        clear hS hL hmx hb2 hb3 hO2
        go_wp2_with fail
        go_roundw
        case rel => exact ⟨_, k + 1, rfl, by go_num, by omega, Lib.hid (by rw [HMX.out]; try (split <;> omega)), HWA⟩
        case measure => simp [intOf]; omega
      · obtain rfl : n = k := by omega
        go_wp2_with fail
        go_ret2
        exact ⟨thenB HB1.out HW.out, .inr ⟨HC.out, s, by rw [HFL.out, HNN.out]; rfl, HF.out, HD.out⟩⟩
end Go.Proofs.YthhaopdimilmcaaDoor
