/- The document's Late: the walk. -/
import Derived.Test.YthhaopdimilmcaaDoorRefS
import Derived.Deep.LoopGhost
namespace Go.Proofs.YthhaopdimilmcaaDoor
open Go.RowKit
def RSt (T : Plan) (w : World) (B n : Nat) (s : Nat → Int) (wr : World) : Prop := (0 < n → OwnS wr B n s (fun j => s j + T.len j)) ∧ Below w.heap.size w wr ∧ w.heap.size ≤ B
theorem RSt.call {T : Plan} {w : World} {B n : Nat} {s : Nat → Int} {wr w' : World} (h : RSt T w B n s wr) (hb : Below wr.heap.size wr w') : RSt T w B n s w' := ⟨fun h0 => (h.1 h0).call hb, thenB h.2.1 hb, h.2.2⟩
theorem RSt.set {T : Plan} {w : World} {B n : Nat} {s : Nat → Int} {wr : World} (h : RSt T w B n s wr) {z : Nat} (hz : z < n) (v u : Int) (hu : u = v + T.len z) : RSt T w B n (Plan.upd s z v) (((wr.setCell ⟨B, z * 2, none⟩ (.int .i64 v)).setCell ⟨B, z * 2 + 1, none⟩ (.int .i64 u)).drew) := by
  refine ⟨fun h0 => ?_, below_drew ((h.2.1.setCell (by exact h.2.2) _).setCell (by exact h.2.2) _), h.2.2⟩
  have h1 := ((h.1 h0).set0 hz v).set1 hz u
  refine (show OwnS (((wr.setCell ⟨B, z * 2, none⟩ (.int .i64 v)).setCell ⟨B, z * 2 + 1, none⟩ (.int .i64 u)).drew) B n _ _ from h1).congr (fun _ _ => rfl) fun j _ => ?_
  by_cases e : j = z
  · subst e; rw [Plan.upd_at, Plan.upd_at, hu]
  · rw [Plan.upd_ne _ _ e, Plan.upd_ne _ _ e]
/-- All links of the first i tasks hold. -/
def LHold (T : Plan) (s : Nat → Int) (i : Nat) : Prop := ∀ i', i' < i → ∀ k, k < T.lc i' → s (T.to i' k) + T.wait i' k ≤ s i'
set_option maxRecDepth 100000 in
set_option maxHeartbeats 16000000 in
theorem refLate_any (oa : Option Addr) (cap : Nat) (AL AU : Nat → Option Addr) (CL CU : Nat → Nat) (T : Plan) (n : Nat) (y : Int) (w : World) (hnn : T.n = n) (hn : n ≤ 9223372036854775807) (hlc : ∀ i, i < n → T.lc i ≤ 9223372036854775807 ∧ T.uc i ≤ 9223372036854775807) (hR : PlanR w oa AL AU CL CU T) :
    Calls Tryd.prog 19 #[.slice oa n cap, .int .i64 y] w fun e w' => ∃ v x, e = .returned (.tuple #[v, .int .i64 x]) ∧ RLateV y T w.heap.size v x w' ∧ Below w.heap.size w w' := by
  have hend := refEnd_any oa cap AL AU CL CU T n w hnn hn hlc hR
  have HNN := Lib.hid hnn
  have HR := Lib.hid hR
  clear hR hnn hn hlc
  go_enter Tryd.func19, Tryd.ntmps19
  go_wp2_with fail
  refine hend.mono ?_
  clear hend
  rintro e w1 ⟨v, x, rfl, (⟨hc, rfl, rfl⟩ | ⟨hc, rfl, s1, rfl, hF, hbd⟩), hb1⟩
  · have HB1 := Lib.hid hb1
    have HC := Lib.hid hc
    have hcb : (T.chk != 0) = true := by simpa using hc
    clear hb1 hc
    go_wp2_with fail
    go_ret2
    exact ⟨_, _, rfl, .inl ⟨HC.out, rfl, rfl⟩, HB1.out⟩
  · have HC := Lib.hid hc
    have HOK := Lib.hid (Plan.chk_ok hc)
    have HF := Lib.hid hF
    have HB1 := Lib.hid hb1
    have hlb := last_bd HOK.out hbd T.n (Nat.le_refl _)
    obtain ⟨E, hE⟩ : ∃ x, Plan.last T s1 T.n = x := ⟨_, rfl⟩
    rw [hE] at hlb ⊢
    have HE := Lib.hid hE
    have hn6 : n ≤ 60 := by rw [← HNN.out]; exact HOK.out.size
    clear hb1 hc hF hbd hE
    by_cases hy : y < E
    · have hyd : decide (y < E) = true := decide_eq_true hy
      go_wp2_with fail
      go_ret2
      exact ⟨_, 12, rfl, .inr ⟨HC.out, s1, HF.out, .inl ⟨by rw [HE.out]; exact hy, rfl, rfl⟩⟩, HB1.out⟩
    · have hyd : decide (y < E) = false := decide_eq_false hy
      by_cases hy2 : 1099511627776 < y
      · have hyd2 : decide (1099511627776 < y) = true := decide_eq_true hy2
        go_wp2_with fail
        go_ret2
        exact ⟨_, 4, rfl, .inr ⟨HC.out, s1, HF.out, .inr (.inl ⟨by rw [HE.out]; omega, hy2, rfl, rfl⟩)⟩, HB1.out⟩
      · have hyd2 : decide (1099511627776 < y) = false := decide_eq_false hy2
        obtain ⟨i0, hi0, hz0, hz1, hz2⟩ := info_parts span_info
        obtain ⟨q, hq, hqb⟩ := Plan.exists_latest HOK.out y
        have HQ := Lib.hid hq
        have HQB := Lib.hid hqb
        have hbz1 := HB1.out.size
        clear hq hqb
        go_wp2_with fail
        go_loopw [8, 9] (fun v c wr => ∃ (ob : Option Addr) (k c2 : Nat), v = .slice ob k c2 ∧ c = .int .i64 (k : Int) ∧ k ≤ n ∧ Hid (wr.ownsRow w1.heap.size 38 2 (.slice ob k c2) k (spV (fun j => y - T.len j) (fun _ => y) k)) ∧ Hid (Below w1.heap.size w1 wr)) (fun _ c _ => n - (intOf c).toNat)
        case atStart => exact ⟨none, 0, 0, rfl, rfl, by omega, Lib.hid (World.ownsRow_nil _ _ _ _), Lib.hid (Below.refl _ _)⟩
        case round =>
          obtain ⟨ob, k, c2, rfl, rfl, hk, HW, HLB⟩ := hrel
          obtain ⟨wA, rfl⟩ : ∃ wo : World, wo = wr := ⟨_, rfl⟩
          have HBA := Lib.hid (thenB HB1.out HLB.out)
          by_cases hkn : k < n
          · have HIN := Lib.hid (show k < T.n by rw [HNN.out]; exact hkn)
            obtain ⟨a, rfl⟩ := HR.out.1 (by rw [HNN.out]; omega)
            obtain ⟨c0, -, -, -⟩ := (HR.out.call HBA.out).at HIN.out
            have hLb := (HOK.out.task k HIN.out).head.1
            obtain ⟨L, hL⟩ : ∃ x, T.len k = x := ⟨_, rfl⟩
            rw [hL] at c0 hLb
            have HL := Lib.hid hL
            have k1 : (0 : Int) ≤ (k : Int) := by omega
            have k2 : (k : Int) < (n : Int) := by omega
            have hAz := HLB.out.size
            clear hL
            go_wp2_with (at_builtin; refine wpList_append_own _ rfl (.tmp 37) (.tmp 47) 24 rfl w1.heap.size 38 i0 (.agg #[.int .i64 0, .int .i64 0]) 2 16 Tryd.underlying24 hi0 hz0 hz1 hz2 rfl (by decide) _ k (spV (fun j => y - T.len j) (fun _ => y) k) rfl (HW.out.alloc _) _ 1 1 [.int .i64 (y - L), .int .i64 y] rfl rfl (cells_here _ _ _) (by simp [Value.oneCell']) (by unfold maxLen; omega) (by omega) (by simp; omega) ?_; intro v8 w8 hown hgrow _)
            obtain ⟨g8, c8, hv8, _, _⟩ := hown.form (by omega)
            subst hv8
            have hlt8 := HW.out.lt
            have HB8 := Lib.hid ((HLB.out.alloc hAz (.cells #[.int .i64 (y - L), .int .i64 y] 38)).grown hgrow (by simp; omega) (fun j hj => (hlt8 j hj).1))
            have HW8 := Lib.hid (show w8.ownsRow w1.heap.size 38 2 (.slice (some ⟨g8, 0, none⟩) (k + 1) c8) (k + 1) (spV (fun j => y - T.len j) (fun _ => y) (k + 1)) by unfold spV; rw [HL.out]; exact hown)
            clear hown hgrow hlt8
            try go_wp2_with fail
            go_roundw
            case rel => exact ⟨_, k + 1, c8, rfl, by go_num, by omega, HW8, HB8⟩
            case measure => simp [intOf]; omega
          · obtain rfl : n = k := by omega
            have hsp := SpansV.own HW.out
            obtain ⟨ob', c', hve, hob⟩ := hsp
            simp only [Value.slice.injEq] at hve
            obtain ⟨rfl, -, -⟩ := hve
            have hB : ∃ B, w.heap.size ≤ B ∧ (0 < n → ob = some ⟨B, 0, none⟩ ∧ OwnS wA B n (fun j => y - T.len j) (fun _ => y)) := by
              by_cases h0 : 0 < n
              · obtain ⟨B, h1, h2, h3⟩ := hob h0
                exact ⟨B, by omega, fun _ => ⟨h1, h3⟩⟩
              · exact ⟨w.heap.size, Nat.le_refl _, fun h => absurd h h0⟩
            obtain ⟨B, hBw, hB2⟩ := hB
            have HOB := Lib.hid (show 0 < n → ob = some ⟨B, 0, none⟩ from fun h => (hB2 h).1)
            have HS0 := Lib.hid (show RSt T w B n (fun j => y - T.len j) wA from ⟨fun h => (hB2 h).2.congr (fun _ _ => rfl) (fun j _ => by show y = y - T.len j + T.len j; omega), HBA.out, hBw⟩)
            have HRL0 := Lib.hid (show Plan.RL T y q (fun j => y - T.len j) from fun j hj => ⟨HQ.out.1.1 j hj, Int.le_refl _⟩)
            clear hob hB2 hBw HW HLB HBA
            go_wp2_with fail
            go_loopg [10] (Plan.sumD (fun j => y - T.len j) q T.n + 1) (fun mu g wr => ∃ (ag : Bool) (s : Nat → Int), g = .bool ag ∧ Hid (RSt T w B n s wr) ∧ Hid (Plan.RL T y q s) ∧ Hid ((if ag = true then Plan.sumD s q T.n + 1 else 0) ≤ mu) ∧ Hid (ag = false → LHold T s T.n))
            case atStart => exact ⟨true, _, rfl, HS0, HRL0, Lib.hid (by simp), Lib.hid fun h => by cases h⟩
            case round =>
              clear HS0 HRL0
              obtain ⟨ag, s0, rfl, HS0, HRL0, HMU, HH0⟩ := hrel
              obtain ⟨wA, rfl⟩ : ∃ wo : World, wo = wr := ⟨_, rfl⟩
              cases ag with
              | false =>
                go_wp2_with fail
                go_ret2
                refine ⟨_, 0, rfl, .inr ⟨HC.out, s1, HF.out, .inr (.inr ⟨by rw [HE.out]; omega, by omega, rfl, s0, ⟨ob, _, by rw [HNN.out]; rfl, fun h0 => ?_⟩, HRL0.out.done HQ.out (HH0.out trivial)⟩)⟩, HS0.out.2.1⟩
                rw [HNN.out] at h0 ⊢
                exact ⟨B, HOB.out h0, HS0.out.2.2, HS0.out.1 h0⟩
              | true =>
                go_wp2_with fail
                go_loopw [10, 11] (fun g c wr => ∃ (ag : Bool) (s : Nat → Int) (i : Nat), g = .bool ag ∧ c = .int .i64 (i : Int) ∧ i ≤ n ∧ Hid (RSt T w B n s wr) ∧ Hid (Plan.RL T y q s) ∧ Hid (ag = true → Plan.sumD s q T.n < Plan.sumD s0 q T.n) ∧ Hid (Plan.sumD s q T.n ≤ Plan.sumD s0 q T.n) ∧ Hid (ag = false → LHold T s i)) (fun _ c _ => n - (intOf c).toNat)
                case atStart => exact ⟨false, s0, 0, rfl, rfl, by omega, HS0, HRL0, Lib.hid fun h => (by cases h), Lib.hid (Nat.le_refl _), Lib.hid fun _ i' hi' => absurd hi' (Nat.not_lt_zero i')⟩
                case round =>
                  clear HS0 HRL0
                  obtain ⟨ag, s, i, rfl, rfl, hi, HS, HRL, HG, HLE, HH⟩ := hrel
                  obtain ⟨wB, rfl⟩ : ∃ wo : World, wo = wr := ⟨_, rfl⟩
                  by_cases hin : i < n
                  · have HIN := Lib.hid (show i < T.n by rw [HNN.out]; exact hin)
                    obtain ⟨a, ha⟩ := HR.out.1 (by rw [HNN.out]; omega)
                    subst ha
                    obtain rfl := HOB.out (by omega)
                    obtain ⟨-, -, t2, -⟩ := (HR.out.call HS.out.2.1).at HIN.out
                    have hlcb := (HOK.out.task i HIN.out).head.2.2.1
                    have hLb := (HOK.out.task i HIN.out).head.1
                    obtain ⟨L, hL⟩ : ∃ x, T.len i = x := ⟨_, rfl⟩
                    obtain ⟨lc, hlcE⟩ : ∃ x, T.lc i = x := ⟨_, rfl⟩
                    obtain ⟨al, hal⟩ : ∃ x, AL i = x := ⟨_, rfl⟩
                    obtain ⟨cl, hcl⟩ : ∃ x, CL i = x := ⟨_, rfl⟩
                    rw [hL] at hLb
                    rw [hal, hlcE, hcl] at t2
                    rw [hlcE] at hlcb
                    have HEE := Lib.hid (And.intro hlcE (And.intro hal hL))
                    have i1 : (0 : Int) ≤ (i : Int) := by omega
                    have i2 : (i : Int) < (n : Int) := by omega
                    clear hL hlcE hal hcl
                    go_wp2_with fail
                    clear t2
                    go_loopw [10, 62] (fun g c wr => ∃ (ag : Bool) (s : Nat → Int) (k : Nat), g = .bool ag ∧ c = .int .i64 (k : Int) ∧ k ≤ lc ∧ Hid (RSt T w B n s wr) ∧ Hid (Plan.RL T y q s) ∧ Hid (ag = true → Plan.sumD s q T.n < Plan.sumD s0 q T.n) ∧ Hid (Plan.sumD s q T.n ≤ Plan.sumD s0 q T.n) ∧ Hid (ag = false → LHold T s i ∧ ∀ k', k' < k → s (T.to i k') + T.wait i k' ≤ s i)) (fun _ c _ => lc - (intOf c).toNat)
                    case atStart => exact ⟨ag, s, 0, rfl, rfl, by omega, HS, HRL, HG, HLE, Lib.hid fun h => ⟨HH.out h, fun k hk => absurd hk (Nat.not_lt_zero k)⟩⟩
                    case round =>
                      clear HS HRL HG HLE HH
                      obtain ⟨ag, s, k, rfl, rfl, hk, HS, HRL, HG, HLE, HH⟩ := hrel
                      obtain ⟨wC, rfl⟩ : ∃ wo : World, wo = wr := ⟨_, rfl⟩
                      by_cases hkl : k < lc
                      · have HKL := Lib.hid (show k < T.lc i by rw [HEE.out.1]; exact hkl)
                        have hLK := (HR.out.call HS.out.2.1).links HIN.out
                        rw [HEE.out.1, HEE.out.2.1] at hLK
                        obtain ⟨b, hb⟩ := hLK.1 (by omega)
                        subst hb
                        obtain ⟨d0, d1, d2⟩ := hLK.at hkl
                        clear hLK
                        obtain ⟨q1, hzi, q3⟩ := Plan.to_lt HOK.out HIN.out HKL.out
                        obtain ⟨⟨-, hkkb, hggb⟩, -⟩ := (HOK.out.task i HIN.out).link k HKL.out
                        have hOb := HRL.out i HIN.out
                        have hOq := HQB.out i HIN.out
                        have hZb := HRL.out _ q1
                        have hZq := HQB.out _ q1
                        have hLZb := (HOK.out.task _ q1).head.1
                        have hstep := fun h => HRL.out.step HOK.out HQ.out HIN.out HKL.out h
                        have hwE : T.wait i k = if T.lk i k = 1 then T.len (T.to i k) + T.lg i k else if T.lk i k = 2 then T.lg i k else if T.lk i k = 3 then T.len (T.to i k) + T.lg i k - T.len i else T.lg i k - T.len i := rfl
                        have hO := HS.out.1 (by omega)
                        obtain ⟨⟨o0, -⟩, o1, -⟩ := hO.2 i hin
                        obtain ⟨⟨z0, -⟩, z1, -⟩ := hO.2 (T.to i k) (by rw [← HNN.out]; exact q1)
                        have hBl := hO.1
                        have hholds := fun (z' : Int) (w' : World) (OF OT ZF ZT : Int) (h1 : s i = OF) (h2 : s i + T.len i = OT) (h3 : s (T.to i k) = ZF) (h4 : s (T.to i k) + T.len (T.to i k) = ZT) hb1 hb2 => refHolds_any T i k s z' _ _ OF OT ZF ZT w' hkkb rfl rfl hggb h1 h2 h3 h4 hb1 hb2
                        have hset := fun (wr' : World) (h : RSt T w B n s wr') (v u : Int) (hu : u = v + T.len (T.to i k)) => h.set (show T.to i k < n by rw [← HNN.out]; exact q1) v u hu
                        rw [q3] at d0
                        obtain ⟨OF, hOF⟩ : ∃ x, s i = x := ⟨_, rfl⟩
                        obtain ⟨OT, hOT⟩ : ∃ x, s i + T.len i = x := ⟨_, rfl⟩
                        obtain ⟨ZF, hZF⟩ : ∃ x, s (T.to i k) = x := ⟨_, rfl⟩
                        obtain ⟨ZT, hZT⟩ : ∃ x, s (T.to i k) + T.len (T.to i k) = x := ⟨_, rfl⟩
                        simp only [hOT] at o1
                        simp only [hZT] at z1
                        have hOTe : OT = OF + L := by rw [← hOT, hOF, HEE.out.2.2]
                        have hZTe : ZT = ZF + T.len (T.to i k) := by rw [← hZT, hZF]
                        rw [hOF] at o0 hOb
                        rw [hZF] at z0 hZb
                        rw [HEE.out.2.2] at hOb hwE
                        have hZFb : -4000000000000 ≤ ZF ∧ ZF ≤ 4000000000000 := by omega
                        have hZTb : -4000000000000 ≤ ZT ∧ ZT ≤ 4000000000000 := by omega
                        have hOFb : -4000000000000 ≤ OF ∧ OF ≤ 4000000000000 := by omega
                        have hOTb : -4000000000000 ≤ OT ∧ OT ≤ 4000000000000 := by omega
                        have hhc := fun (z' : Int) (w' : World) => hholds z' w' OF OT ZF ZT hOF hOT hZF hZT hZFb hZTb
                        have hhd : holdsB T i k s = decide (ZF + T.wait i k ≤ OF) := by unfold holdsB; rw [hZF, hOF]
                        rw [hOF, hZF] at hstep
                        obtain ⟨WT, hWT⟩ : ∃ x, T.wait i k = x := ⟨_, rfl⟩
                        rw [hWT] at hhd hwE
                        simp only [hWT] at hstep
                        obtain ⟨z, hz⟩ : ∃ x, T.to i k = x := ⟨_, rfl⟩
                        obtain ⟨kk, hkk⟩ : ∃ x, T.lk i k = x := ⟨_, rfl⟩
                        obtain ⟨gg, hgg⟩ : ∃ x, T.lg i k = x := ⟨_, rfl⟩
                        obtain ⟨LZ, hLZ⟩ : ∃ x, T.len z = x := ⟨_, rfl⟩
                        rw [hz] at d0 q1 z0 z1 hZTe hLZb hZb
                        rw [hkk] at d1 hkkb
                        rw [hgg] at d2 hggb
                        rw [hLZ] at hZTe hLZb hZb
                        rw [hz, hkk, hgg, hLZ] at hwE
                        simp only [hz] at hstep hset
                        simp only [hLZ] at hset
                        rw [hkk, hgg] at hhc
                        rw [HNN.out] at q1
                        have HHC := Lib.hid hhc
                        have HSTEP := Lib.hid hstep
                        have HSET := Lib.hid hset
                        have HWE := Lib.hid hwE
                        have HWT := Lib.hid (And.intro hWT (And.intro hz (And.intro hOF hZF)))
                        have j1 : (0 : Int) ≤ (z : Int) := by omega
                        have j2 : (z : Int) < (n : Int) := by omega
                        have HSA := Lib.hid (HS.out.call (Below.alloc (Below.refl _ _) (Nat.le_refl _) (.cells #[.int .i64 (z : Int), .int .i64 kk, .int .i64 gg] 43)))
                        have HX := Lib.hid (Tri.new wC (z : Int) kk gg 43)
                        have HQ1 := Lib.hid q1
                        have hOS := HSA.out.1 (by omega)
                        have hne : z ≠ i := by rw [← hz]; exact hzi
                        obtain ⟨⟨o0', -⟩, o1', -⟩ := hOS.2 i hin
                        obtain ⟨⟨z0', -⟩, z1', -⟩ := hOS.2 z q1
                        rw [hOF] at o0'
                        simp only [hOT] at o1'
                        rw [← hz, hZF] at z0'
                        rw [← hz] at z1'
                        simp only [hZT] at z1'
                        rw [hz] at z0' z1'
                        have r1 := cell_regrown o0'
                        have r2 := cell_regrown o1'
                        have r3 := cell_regrown z0'
                        have r4 := cell_regrown z1'
                        have r5 := cell_regrown HX.out.2.1
                        have r6 := cell_regrown HX.out.2.2.1
                        have r7 := cell_regrown HX.out.2.2.2
                        have hDB : ∀ k', k' < k + 1 → k' ≠ k → k' < k := fun k' h1 h2 => by omega
                        have HOTZ := Lib.hid (And.intro hOTe hZTe)
                        have HLZ := Lib.hid hLZ
                        clear hOTe hZTe hholds hhc hstep hset hwE hOF hOT hZF hZT hz hkk hgg hLZ hWT q3 hzi hO hOS o0 o1 z0 z1 o0' o1' z0' z1' hOb hOq hZb hZq
                        by_cases hld : ZF + WT ≤ OF
                        · rw [decide_eq_true hld] at hhd
                          have HLD := Lib.hid hld
                          clear hld
                          go_wp2_with fail
                          refine wp_region_below (by kernel_rfl) (by kernel_rfl) ?_
                          repeat (go_big_quiet_step ((go_at_call 36; exact Calls.regrown_of (by with_reducible exact HHC.out (z : Int) _))))
                          refine wpQuiet_nil ?_
                          intro w5 hb5
                          have HS5 := Lib.hid (HSA.out.call hb5)
                          clear hb5 r1 r2 r3 r4 r5 r6 r7
                          rw [hhd]
                          go_wp2_with fail
                          go_roundw
                          case rel =>
                            refine ⟨ag, s, k + 1, rfl, by go_num, by omega, HS5, HRL, HG, HLE, Lib.hid fun h => ⟨(HH.out h).1, fun k' hk' => ?_⟩⟩
                            by_cases e : k' = k
                            · subst e; rw [HWT.out.1, HWT.out.2.2.2, HWT.out.2.2.1]; exact HLD.out
                            · exact (HH.out h).2 k' (by omega)
                          case measure => simp [intOf]; omega
                        · rw [decide_eq_false hld] at hhd
                          obtain ⟨hrl, hsd⟩ := HSTEP.out (by omega)
                          have HRL2 := Lib.hid hrl
                          have HSD := Lib.hid hsd
                          clear hld hrl hsd
                          go_wp2_with fail
                          refine wp_region_below (by kernel_rfl) (by kernel_rfl) ?_
                          repeat (go_big_quiet_step ((go_at_call 36; exact Calls.regrown_of (by with_reducible exact HHC.out (z : Int) _))))
                          refine wpQuiet_nil ?_
                          intro w5 hb5
                          have HS5 := Lib.hid (HSA.out.call hb5)
                          have HX5 := Lib.hid (HX.out.call hb5)
                          clear hb5 r1 r2 r3 r4 r5 r6 r7
                          rw [hhd]
                          have hkc : kk = 1 ∨ kk = 2 ∨ kk = 3 ∨ kk = 4 := by omega
                          have HOC := Lib.hid (show ∀ w', RSt T w B n s w' → (w'.cell? ⟨B, i * 2, none⟩ = some (.int .i64 OF) ∧ w'.cell? ⟨B, i * 2 + 1, none⟩ = some (.int .i64 OT)) ∧ (w'.cell? ⟨B, z * 2, none⟩ = some (.int .i64 ZF) ∧ w'.cell? ⟨B, z * 2 + 1, none⟩ = some (.int .i64 ZT)) ∧ w'.frozen? ⟨B, z * 2, none⟩ = false ∧ w'.frozen? ⟨B, z * 2 + 1, none⟩ = false from fun w' h => by
                            have h1 := h.1 (by omega)
                            obtain ⟨⟨e1, -⟩, e2, -⟩ := h1.2 i hin
                            obtain ⟨⟨e3, e4⟩, e5, e6⟩ := h1.2 z HQ1.out
                            have k1 : s i = OF := HWT.out.2.2.1
                            have k2 : s z = ZF := by rw [← HWT.out.2.1]; exact HWT.out.2.2.2
                            have k3 : s i + T.len i = OT := by have h5 := HOTZ.out; rw [k1, HEE.out.2.2]; omega
                            rw [k1] at e1
                            simp only [k3] at e2
                            rw [k2] at e3
                            simp only [k2] at e5
                            refine ⟨⟨e1, e2⟩, ⟨e3, ?_⟩, e4, e6⟩
                            rw [e5]
                            have h5 := HOTZ.out
                            have h6 := HLZ.out
                            congr 2
                            omega)
                          rcases hkc with rfl | rfl | rfl | rfl
                          · have hW1 : ZF - (ZT + gg - OF) = OF - WT := by have h5 := HOTZ.out; have := HWE.out; simp at this; omega
                            have hW2 : ZT - (ZT + gg - OF) = ZF - (ZT + gg - OF) + LZ := by have h5 := HOTZ.out; omega
                            obtain ⟨⟨o0, o1⟩, ⟨z0, z1⟩, f0, f1⟩ := HOC.out w5 HS5.out
                            have r1 := cell_regrown o0
                            have r2 := cell_regrown o1
                            have r3 := cell_regrown z0
                            have r4 := cell_regrown z1
                            have r5 := cell_regrown HX5.out.2.1
                            have r7 := cell_regrown HX5.out.2.2.2
                            have x1 := HX5.out.2.2.1
                            have HW1 := Lib.hid (And.intro hW1 hW2)
                            clear hW1 hW2
                            go_wp2_with fail
                            refine wp_region_below (by kernel_rfl) (by kernel_rfl) ?_
                            repeat (go_big_quiet_step (fail))
                            refine wpQuiet_nil ?_
                            intro w6 hb6
                            have HS6 := Lib.hid (HS5.out.call hb6)
                            have HX6 := Lib.hid (HX5.out.call hb6)
                            clear hb6 r1 r2 r3 r4 r5 r7 o0 o1 z0 z1 f0 f1 x1
                            obtain ⟨-, ⟨z0, z1⟩, f0, f1⟩ := HOC.out w6 HS6.out
                            have x0 := HX6.out.2.1
                            have hst := HSET.out w6 HS6.out (ZF - (ZT + gg - OF)) (ZT - (ZT + gg - OF)) HW1.out.2
                            have HST := Lib.hid hst
                            clear hst
                            go_wp2_with fail
                            refine Code.wp_mono (fun e a'' w'' h => ?_) (store32 B n c2 wC.heap.size z (ZT + gg - OF) ZF ZT w6 HQ1.out x0 z0 z1 f0 f1 ⟨⟨by omega, by omega⟩, ⟨by omega, by omega⟩, by omega, by omega⟩ hBl)
                            cases e
                            case normal =>
                              obtain ⟨v145, v146, v147, v148, v149, v150, v151, v152, v153, v154, v155, v156, v157, v158, v159, v160, v161, v162, v163, v164, v165, v166, v167, v168, v169, v170, rfl, rfl⟩ := h
                              go_wp2_with fail
                              go_roundw
                              case rel => exact ⟨true, _, k + 1, rfl, by go_num, by omega, HST, by rw [HW1.out.1]; exact HRL2, Lib.hid fun _ => by rw [HW1.out.1]; have := HLE.out; have := HSD.out; omega, Lib.hid (by rw [HW1.out.1]; have := HLE.out; have := HSD.out; omega), Lib.hid fun h => by cases h⟩
                              case measure => simp [intOf]; omega
                            all_goals exact (h : False).elim
                          · have hW1 : ZF - (ZF + gg - OF) = OF - WT := by have h5 := HOTZ.out; have := HWE.out; simp at this; omega
                            have hW2 : ZT - (ZF + gg - OF) = ZF - (ZF + gg - OF) + LZ := by have h5 := HOTZ.out; omega
                            obtain ⟨⟨o0, o1⟩, ⟨z0, z1⟩, f0, f1⟩ := HOC.out w5 HS5.out
                            have r1 := cell_regrown o0
                            have r2 := cell_regrown o1
                            have r3 := cell_regrown z0
                            have r4 := cell_regrown z1
                            have r5 := cell_regrown HX5.out.2.1
                            have r7 := cell_regrown HX5.out.2.2.2
                            have x1 := HX5.out.2.2.1
                            have HW1 := Lib.hid (And.intro hW1 hW2)
                            clear hW1 hW2
                            go_wp2_with fail
                            refine wp_region_below (by kernel_rfl) (by kernel_rfl) ?_
                            repeat (go_big_quiet_step (fail))
                            refine wpQuiet_nil ?_
                            intro w6 hb6
                            have HS6 := Lib.hid (HS5.out.call hb6)
                            have HX6 := Lib.hid (HX5.out.call hb6)
                            clear hb6 r1 r2 r3 r4 r5 r7 o0 o1 z0 z1 f0 f1 x1
                            obtain ⟨-, ⟨z0, z1⟩, f0, f1⟩ := HOC.out w6 HS6.out
                            have x0 := HX6.out.2.1
                            have hst := HSET.out w6 HS6.out (ZF - (ZF + gg - OF)) (ZT - (ZF + gg - OF)) HW1.out.2
                            have HST := Lib.hid hst
                            clear hst
                            go_wp2_with fail
                            refine Code.wp_mono (fun e a'' w'' h => ?_) (store32 B n c2 wC.heap.size z (ZF + gg - OF) ZF ZT w6 HQ1.out x0 z0 z1 f0 f1 ⟨⟨by omega, by omega⟩, ⟨by omega, by omega⟩, by omega, by omega⟩ hBl)
                            cases e
                            case normal =>
                              obtain ⟨v145, v146, v147, v148, v149, v150, v151, v152, v153, v154, v155, v156, v157, v158, v159, v160, v161, v162, v163, v164, v165, v166, v167, v168, v169, v170, rfl, rfl⟩ := h
                              go_wp2_with fail
                              go_roundw
                              case rel => exact ⟨true, _, k + 1, rfl, by go_num, by omega, HST, by rw [HW1.out.1]; exact HRL2, Lib.hid fun _ => by rw [HW1.out.1]; have := HLE.out; have := HSD.out; omega, Lib.hid (by rw [HW1.out.1]; have := HLE.out; have := HSD.out; omega), Lib.hid fun h => by cases h⟩
                              case measure => simp [intOf]; omega
                            all_goals exact (h : False).elim
                          · have hW1 : ZF - (ZT + gg - OT) = OF - WT := by have h5 := HOTZ.out; have := HWE.out; simp at this; omega
                            have hW2 : ZT - (ZT + gg - OT) = ZF - (ZT + gg - OT) + LZ := by have h5 := HOTZ.out; omega
                            obtain ⟨⟨o0, o1⟩, ⟨z0, z1⟩, f0, f1⟩ := HOC.out w5 HS5.out
                            have r1 := cell_regrown o0
                            have r2 := cell_regrown o1
                            have r3 := cell_regrown z0
                            have r4 := cell_regrown z1
                            have r5 := cell_regrown HX5.out.2.1
                            have r7 := cell_regrown HX5.out.2.2.2
                            have x1 := HX5.out.2.2.1
                            have HW1 := Lib.hid (And.intro hW1 hW2)
                            clear hW1 hW2
                            go_wp2_with fail
                            refine wp_region_below (by kernel_rfl) (by kernel_rfl) ?_
                            repeat (go_big_quiet_step (fail))
                            refine wpQuiet_nil ?_
                            intro w6 hb6
                            have HS6 := Lib.hid (HS5.out.call hb6)
                            have HX6 := Lib.hid (HX5.out.call hb6)
                            clear hb6 r1 r2 r3 r4 r5 r7 o0 o1 z0 z1 f0 f1 x1
                            obtain ⟨-, ⟨z0, z1⟩, f0, f1⟩ := HOC.out w6 HS6.out
                            have x0 := HX6.out.2.1
                            have hst := HSET.out w6 HS6.out (ZF - (ZT + gg - OT)) (ZT - (ZT + gg - OT)) HW1.out.2
                            have HST := Lib.hid hst
                            clear hst
                            go_wp2_with fail
                            refine Code.wp_mono (fun e a'' w'' h => ?_) (store32 B n c2 wC.heap.size z (ZT + gg - OT) ZF ZT w6 HQ1.out x0 z0 z1 f0 f1 ⟨⟨by omega, by omega⟩, ⟨by omega, by omega⟩, by omega, by omega⟩ hBl)
                            cases e
                            case normal =>
                              obtain ⟨v145, v146, v147, v148, v149, v150, v151, v152, v153, v154, v155, v156, v157, v158, v159, v160, v161, v162, v163, v164, v165, v166, v167, v168, v169, v170, rfl, rfl⟩ := h
                              go_wp2_with fail
                              go_roundw
                              case rel => exact ⟨true, _, k + 1, rfl, by go_num, by omega, HST, by rw [HW1.out.1]; exact HRL2, Lib.hid fun _ => by rw [HW1.out.1]; have := HLE.out; have := HSD.out; omega, Lib.hid (by rw [HW1.out.1]; have := HLE.out; have := HSD.out; omega), Lib.hid fun h => by cases h⟩
                              case measure => simp [intOf]; omega
                            all_goals exact (h : False).elim
                          · have hW1 : ZF - (ZF + gg - OT) = OF - WT := by have h5 := HOTZ.out; have := HWE.out; simp at this; omega
                            have hW2 : ZT - (ZF + gg - OT) = ZF - (ZF + gg - OT) + LZ := by have h5 := HOTZ.out; omega
                            obtain ⟨⟨o0, o1⟩, ⟨z0, z1⟩, f0, f1⟩ := HOC.out w5 HS5.out
                            have r1 := cell_regrown o0
                            have r2 := cell_regrown o1
                            have r3 := cell_regrown z0
                            have r4 := cell_regrown z1
                            have r5 := cell_regrown HX5.out.2.1
                            have r7 := cell_regrown HX5.out.2.2.2
                            have x1 := HX5.out.2.2.1
                            have HW1 := Lib.hid (And.intro hW1 hW2)
                            clear hW1 hW2
                            go_wp2_with fail
                            refine wp_region_below (by kernel_rfl) (by kernel_rfl) ?_
                            repeat (go_big_quiet_step (fail))
                            refine wpQuiet_nil ?_
                            intro w6 hb6
                            have HS6 := Lib.hid (HS5.out.call hb6)
                            have HX6 := Lib.hid (HX5.out.call hb6)
                            clear hb6 r1 r2 r3 r4 r5 r7 o0 o1 z0 z1 f0 f1 x1
                            obtain ⟨-, ⟨z0, z1⟩, f0, f1⟩ := HOC.out w6 HS6.out
                            have x0 := HX6.out.2.1
                            have hst := HSET.out w6 HS6.out (ZF - (ZF + gg - OT)) (ZT - (ZF + gg - OT)) HW1.out.2
                            have HST := Lib.hid hst
                            clear hst
                            go_wp2_with fail
                            refine Code.wp_mono (fun e a'' w'' h => ?_) (store32 B n c2 wC.heap.size z (ZF + gg - OT) ZF ZT w6 HQ1.out x0 z0 z1 f0 f1 ⟨⟨by omega, by omega⟩, ⟨by omega, by omega⟩, by omega, by omega⟩ hBl)
                            cases e
                            case normal =>
                              obtain ⟨v145, v146, v147, v148, v149, v150, v151, v152, v153, v154, v155, v156, v157, v158, v159, v160, v161, v162, v163, v164, v165, v166, v167, v168, v169, v170, rfl, rfl⟩ := h
                              go_wp2_with fail
                              go_roundw
                              case rel => exact ⟨true, _, k + 1, rfl, by go_num, by omega, HST, by rw [HW1.out.1]; exact HRL2, Lib.hid fun _ => by rw [HW1.out.1]; have := HLE.out; have := HSD.out; omega, Lib.hid (by rw [HW1.out.1]; have := HLE.out; have := HSD.out; omega), Lib.hid fun h => by cases h⟩
                              case measure => simp [intOf]; omega
                            all_goals exact (h : False).elim
                      · obtain rfl : lc = k := by omega
                        go_wp2_with fail
                        go_roundw
                        case rel =>
                          refine ⟨ag, s, i + 1, rfl, by go_num, by omega, HS, HRL, HG, HLE, Lib.hid fun h i' hi' => ?_⟩
                          by_cases e : i' = i
                          · subst e; exact fun k' hk' => (HH.out h).2 k' (by rw [← HEE.out.1]; exact hk')
                          · exact (HH.out h).1 i' (by omega)
                        case measure => simp [intOf]; omega
                  · obtain rfl : n = i := by omega
                    go_wp2_with fail
                    go_roundg (if ag = true then Plan.sumD s q T.n + 1 else 0)
                    case measure =>
                      have h1 := HMU.out
                      simp at h1
                      cases ag with
                      | false => simp; omega
                      | true => have := HG.out rfl; simp; omega
                    case rel => exact ⟨ag, s, rfl, HS, HRL, Lib.hid (Nat.le_refl _), Lib.hid fun h => by rw [HNN.out]; exact HH.out h⟩
end Go.Proofs.YthhaopdimilmcaaDoor
