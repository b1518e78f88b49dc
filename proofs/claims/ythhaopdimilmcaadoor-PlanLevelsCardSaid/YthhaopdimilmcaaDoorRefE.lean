/- The document's End and holds. -/
import Derived.Test.YthhaopdimilmcaaDoorRefD
namespace Go.Proofs.YthhaopdimilmcaaDoor
open Go.RowKit
set_option maxRecDepth 100000 in
set_option maxHeartbeats 4000000 in
theorem refEnd_any (oa : Option Addr) (cap : Nat) (AL AU : Nat → Option Addr) (CL CU : Nat → Nat) (T : Plan) (n : Nat) (w : World) (hnn : T.n = n) (hn : n ≤ 9223372036854775807) (hlc : ∀ i, i < n → T.lc i ≤ 9223372036854775807 ∧ T.uc i ≤ 9223372036854775807) (hR : PlanR w oa AL AU CL CU T) :
    Calls Tryd.prog 17 #[.slice oa n cap] w fun e w' => ∃ v x, e = .returned (.tuple #[v, .int .i64 x]) ∧ EndV T w.heap.size v x w' ∧ Below w.heap.size w w' := by
  have hearly := refEarly_any oa cap AL AU CL CU T n w hnn hn hlc hR
  have HNN := Lib.hid hnn
  clear hR hnn hn hlc
  go_enter Tryd.func17, Tryd.ntmps17
  go_wp2_with fail
  refine hearly.mono ?_
  clear hearly
  rintro e w1 ⟨v, x, rfl, (⟨hc, rfl, rfl⟩ | ⟨hc, rfl, B, s, rfl, hB, hO, hF, hbd⟩), hb1⟩
  · have HB1 := Lib.hid hb1
    have HC := Lib.hid hc
    clear hb1 hc
    go_wp2_with fail
    refine wp_loop_rounds 1 ?_
    rw [rounds_succ]
    go_wp2_with fail
    go_ret2
    exact ⟨_, _, rfl, .inl ⟨HC.out, rfl, rfl⟩, HB1.out⟩
  · have hok := Plan.chk_ok hc
    have hn6 : n ≤ 60 := by rw [← HNN.out]; exact hok.size
    have HB1 := Lib.hid hb1
    have HC := Lib.hid hc
    rw [HNN.out] at hO ⊢
    have HO := Lib.hid hO
    have HF := Lib.hid hF
    have HD := Lib.hid hbd
    have HOK := Lib.hid hok
    clear hb1 hc hO hF hbd hok
    go_wp2_with fail
    go_loopw [6, 7] (fun f c wr => ∃ (F : Int) (k : Nat), f = .int .i64 F ∧ c = .int .i64 (k : Int) ∧ k ≤ n ∧ Hid (F = Plan.last T s k) ∧ Hid (Below w1.heap.size w1 wr)) (fun _ c _ => n - (intOf c).toNat)
    case atStart => exact ⟨0, 0, rfl, rfl, by omega, Lib.hid rfl, Lib.hid (Below.refl _ _)⟩
    case round =>
      obtain ⟨F, k, rfl, rfl, hk, HFL, HW⟩ := hrel
      by_cases hkn : k < n
      · have c1 := ((HO.out.call HW.out).2 k hkn).2.1
        have hmx : Plan.last T s (k + 1) = max F (s k + T.len k) := by rw [HFL.out]; rfl
        obtain ⟨E, hE⟩ : ∃ x, s k + T.len k = x := ⟨_, rfl⟩
        simp only [hE] at c1 hmx
        have HMX := Lib.hid hmx
        have k1 : (0 : Int) ≤ (k : Int) := by omega
        have k2 : (k : Int) < (n : Int) := by omega
        clear hE hmx
        go_wp2_with fail
        go_roundw
        case rel => exact ⟨_, k + 1, rfl, by go_num, by omega, Lib.hid (by rw [HMX.out]; try (split <;> omega)), HW⟩
        case measure => simp [intOf]; omega
      · obtain rfl : n = k := by omega
        go_wp2_with fail
        go_ret2
        exact ⟨_, 0, rfl, .inr ⟨HC.out, rfl, s, by rw [HNN.out, ← HFL.out]; rfl, HF.out, HD.out⟩, thenB HB1.out HW.out⟩
/-- Whether a link holds, as the document asks it. -/
def holdsB (T : Plan) (i k : Nat) (q : Nat → Int) : Bool := decide (q (T.to i k) + T.wait i k ≤ q i)
set_option maxHeartbeats 4000000 in
theorem refHolds_any (T : Plan) (i k : Nat) (q : Nat → Int) (z kk gg OF OT ZF ZT : Int) (w : World) (hk : 1 ≤ T.lk i k ∧ T.lk i k ≤ 4) (hkk : T.lk i k = kk) (hgg : T.lg i k = gg) (hg : -1000000 ≤ gg ∧ gg ≤ 1000000) (h1 : q i = OF) (h2 : q i + T.len i = OT) (h3 : q (T.to i k) = ZF) (h4 : q (T.to i k) + T.len (T.to i k) = ZT) (hb : -4000000000000 ≤ ZF ∧ ZF ≤ 4000000000000) (hb2 : -4000000000000 ≤ ZT ∧ ZT ≤ 4000000000000) :
    Calls Tryd.prog 36 #[.agg #[.int .i64 z, .int .i64 kk, .int .i64 gg], .agg #[.int .i64 OF, .int .i64 OT], .agg #[.int .i64 ZF, .int .i64 ZT]] w fun e w' => e = .returned (.bool (holdsB T i k q)) ∧ Below w.heap.size w w' := by
  have hh := Plan.holds_iff T i k hk (q i) (q (T.to i k))
  rw [hkk] at hk hh
  rw [h4, hgg, h2, h1, h3] at hh
  have HB := Lib.hid (((Below.alloc (Below.refl _ _) (Nat.le_refl _) (.cells #[.int .i64 z, .int .i64 kk, .int .i64 gg] 43) : Below w.heap.size w _).alloc (by simp) (.cells #[.int .i64 OF, .int .i64 OT] 38)).alloc (by simp; omega) (.cells #[.int .i64 ZF, .int .i64 ZT] 38))
  have HH := Lib.hid (show holdsB T i k q = decide (q (T.to i k) + T.wait i k ≤ q i) from rfl)
  rw [h3, h1] at HH
  have HI := Lib.hid hh
  have hkc : kk = 1 ∨ kk = 2 ∨ kk = 3 ∨ kk = 4 := by omega
  obtain ⟨hg1, hg2⟩ := hg
  obtain ⟨hb1, hb1'⟩ := hb
  obtain ⟨hb3, hb3'⟩ := hb2
  clear hh h1 h2 h3 h4 hkk hgg hk
  rcases hkc with rfl | rfl | rfl | rfl
  all_goals
    go_enter Tryd.func36, Tryd.ntmps36
    go_wp2_with fail
    go_ret
    refine ⟨retB ?_, HB.out⟩
    rw [HH.out]
    refine decide_eq_decide.2 ?_
    have := HI.out
    rw [this]
    simp
end Go.Proofs.YthhaopdimilmcaaDoor
