/- The program's Early. -/
import Derived.Test.YthhaopdimilmcaaDoorPlnE
import Derived.Test.YthhaopdimilmcaaDoorQTail
namespace Go.Proofs.YthhaopdimilmcaaDoor
open Go.RowKit
theorem span_info : (Tryd.prog.info? 38).map (fun i => (i.zero, i.size, i.bytes)) = some (some (.agg #[.int .i64 0, .int .i64 0]), 2, 16) := by kernel_rfl
theorem made_two (n i : Nat) (h : i < n * 2) : (madeCells #[.int .i64 0, .int .i64 0] (n * 2))[i]? = some (.int .i64 0) := by
  have : i % 2 = 0 ∨ i % 2 = 1 := by omega
  rcases this with e | e <;> simp [madeCells, h, e]
theorem make_spans (n : Nat) (hn : n ≤ 1000000) : ∃ M : Array Value, (∀ i, i < n * 2 → M[i]? = some (.int .i64 0)) ∧ ∀ w, (Instr.makeSlice 24 (.int .i64 (n : Int)) (.int .i64 (n : Int))).run Tryd.prog w = .ok (.slice (some ⟨w.heap.size, 0, none⟩) n n) (w.alloc (.cells M 38)) := by
  obtain ⟨i0, hi, hz0, hz1, hz2⟩ := info_parts span_info
  refine ⟨madeCells #[.int .i64 0, .int .i64 0] (n * 2), fun i hi => made_two n i hi, fun w => ?_⟩
  have h := run_make w 24 38 i0 (.agg #[.int .i64 0, .int .i64 0]) Tryd.underlying24 hi hz0 .i64 .i64 n n (by omega) (Int.le_refl _) (by rw [hz2]; omega) (by omega)
  rw [hz1, Int.toNat_natCast] at h
  exact h
theorem OwnS.new (w : World) (n : Nat) (M : Array Value) (t : TypeId) (hM : ∀ i, i < n * 2 → M[i]? = some (.int .i64 0)) : OwnS (w.alloc (.cells M t)) w.heap.size n (fun _ => 0) (fun _ => 0) :=
  ⟨by simp, fun j hj => ⟨⟨by rw [World.cell?_alloc_at _ _ _ _ (by simp)]; simpa using hM (j * 2) (by omega), by simp⟩, by rw [World.cell?_alloc_at _ _ _ _ (by simp)]; simpa using hM (j * 2 + 1) (by omega), by simp⟩⟩
/-- The soonest beginnings under way. -/
def ESt (T : Plan) (o : List Nat) (w : World) (B n p : Nat) (s t : Nat → Int) (wr : World) : Prop := OwnS wr B n s t ∧ Plan.EarlyAt T o p s ∧ (∀ i, i ∈ o.take p → t i = s i + T.len i) ∧ Below w.heap.size w wr ∧ w.heap.size ≤ B
theorem ESt.call {T : Plan} {o : List Nat} {w : World} {B n p : Nat} {s t : Nat → Int} {wr w' : World} (h : ESt T o w B n p s t wr) (hb : Below wr.heap.size wr w') : ESt T o w B n p s t w' :=
  ⟨h.1.call hb, h.2.1, h.2.2.1, thenB h.2.2.2.1 hb, h.2.2.2.2⟩
theorem take_snoc {o : List Nat} {p i : Nat} (h : o[p]? = some i) : o.take (p + 1) = o.take p ++ [i] := by rw [List.take_add_one, h]; rfl
theorem ESt.step {T : Plan} (hT : T.Ok) {o : List Nat} (ho : Plan.Topo T o) {w : World} {B n p : Nat} {s t : Nat → Int} {wr : World} (h : ESt T o w B n p s t wr) {i : Nat} (hp : o[p]? = some i) (hin : i < n) :
    ESt T o w B n (p + 1) (Plan.upd s i (Plan.mx T s i (T.lc i))) (Plan.upd t i (Plan.mx T s i (T.lc i) + T.len i)) ((wr.setCell ⟨B, i * 2, none⟩ (.int .i64 (Plan.mx T s i (T.lc i)))).setCell ⟨B, i * 2 + 1, none⟩ (.int .i64 (Plan.mx T s i (T.lc i) + T.len i))) := by
  obtain ⟨h1, h2, h3, h4, h5⟩ := h
  refine ⟨(h1.set0 hin _).set1 hin _, h2.step hT ho hp, fun j hj => ?_, (h4.setCell (by exact h5) _).setCell (by exact h5) _, h5⟩
  rw [take_snoc hp] at hj
  by_cases e : j = i
  · subst e; rw [Plan.upd_at, Plan.upd_at]
  · rw [Plan.upd_ne _ _ e, Plan.upd_ne _ _ e]
    rcases List.mem_append.1 hj with h6 | h6
    · exact h3 j h6
    · exact absurd (List.mem_singleton.1 h6) e
/-- What Early answers. -/
def EarlyR (T : Plan) (w : World) (e : Ending) (w' : World) : Prop := Below w.heap.size w w' ∧ ((T.chk ≠ 0 ∧ e = .returned (.tuple #[.slice none 0 0, errV T.chk])) ∨ (T.chk = 0 ∧ ∃ B s, e = .returned (.tuple #[.slice (some ⟨B, 0, none⟩) T.n T.n, .nilIface]) ∧ w.heap.size ≤ B ∧ OwnS w' B T.n s (fun i => s i + T.len i) ∧ Plan.Fix T s ∧ ∀ i, i < T.n → 0 ≤ s i ∧ s i ≤ 121000000))
theorem OwnS.congr {w : World} {B n : Nat} {f t f' t' : Nat → Int} (h : OwnS w B n f t) (e1 : ∀ i, i < n → f i = f' i) (e2 : ∀ i, i < n → t i = t' i) : OwnS w B n f' t' :=
  ⟨h.1, fun j hj => ⟨⟨by rw [← e1 j hj]; exact (h.2 j hj).1.1, (h.2 j hj).1.2⟩, by rw [← e2 j hj]; exact (h.2 j hj).2.1, (h.2 j hj).2.2⟩⟩
/-- The p-th of an order. -/
theorem IntsL.at {w : World} {b : Nat} {oa : Option Addr} {m cap : Nat} {l : List Nat} (h : IntsL w b (.slice oa m cap) l) {p : Nat} (hp : p < l.length) : ∃ g, oa = some ⟨g, 0, none⟩ ∧ w.cell? ⟨g, p, none⟩ = some (.int .i64 ((l.getD p 0 : Nat) : Int)) := by
  obtain ⟨oa', cap', h1, h2, h3, h4⟩ := h
  simp only [Value.slice.injEq] at h1
  obtain ⟨rfl, _, _⟩ := h1
  obtain ⟨g, h5, _, h6⟩ := h4 (by omega)
  exact ⟨g, h5, (h6.2 p hp).1⟩
set_option maxRecDepth 100000 in
set_option maxHeartbeats 8000000 in
theorem early_any (oa : Option Addr) (cap : Nat) (AL AU : Nat → Option Addr) (CL CU : Nat → Nat) (T : Plan) (w : World) (hn : T.n ≤ 9223372036854775807) (hlc : ∀ i, i < T.n → T.lc i ≤ 9223372036854775807 ∧ T.uc i ≤ 9223372036854775807) (hR : PlanR w oa AL AU CL CU T) :
    Calls Tryd.prog 27 #[.slice oa T.n cap] w (EarlyR T w) := by
  have hcheck := check_any oa cap AL AU CL CU T w hn hlc hR
  have HR := Lib.hid hR
  clear hR
  by_cases hc : T.chk = 0
  · have hok := Plan.chk_ok hc
    have HOK := Lib.hid hok
    obtain ⟨n, hnn⟩ : ∃ x, T.n = x := ⟨_, rfl⟩
    have HNN := Lib.hid hnn
    have hn6 : n ≤ 60 := by rw [← hnn]; exact hok.size
    rw [hc] at hcheck
    rw [hnn] at hcheck ⊢
    have HC := Lib.hid hc
    clear hnn hn hlc hok hc
    obtain ⟨M, hM, hmake⟩ := make_spans n (by omega)
    have HM := Lib.hid hM
    clear hM
    go_enter Tryd.func27, Tryd.ntmps27
    go_wp2_with fail
    refine hcheck.mono ?_; rintro e w1 ⟨rfl, hb1⟩
    clear hcheck
    have HB1 := Lib.hid hb1
    clear hb1
    rw [errV_nil]
    go_wp2_with fail
    have hcall := order_any oa cap AL AU CL CU T w1 HOK.out.size HOK.out.task (HR.out.call HB1.out)
    rw [HNN.out] at hcall
    refine hcall.mono ?_
    clear hcall
    rintro e w2 ⟨hb2, o, hTo, (⟨hl, v, rfl, hv⟩ | ⟨hl, hs, rfl⟩)⟩
    · have HB2 := Lib.hid (thenB HB1.out hb2)
      have HTO := Lib.hid hTo
      have HV := Lib.hid hv
      obtain ⟨ob, cap2, hve, _, _, _⟩ := hv
      rw [hl, HNN.out] at hve
      subst hve
      have HL := Lib.hid hl
      clear hb2 hTo hl
      go_wp2_with fail
      have hS0 : ESt T o w w2.heap.size n 0 (fun _ => 0) (fun _ => 0) (w2.alloc (.cells M 38)) :=
        ⟨OwnS.new w2 n M _ HM.out, Plan.EarlyAt.zero T o, fun i hi => by simp at hi, HB2.out.alloc HB2.out.size _, HB2.out.size⟩
      have HS0 := Lib.hid hS0
      have HL0 := Lib.hid (Below.alloc (Below.refl w2.heap.size w2) (Nat.le_refl _) (.cells M 38))
      clear hS0 hmake
      go_loopw [28] (fun c wr => ∃ (p : Nat) (s t : Nat → Int), c = .int .i64 (p : Int) ∧ p ≤ n ∧ Hid (ESt T o w w2.heap.size n p s t wr) ∧ Hid (Below w2.heap.size w2 wr)) (fun c _ => n - (intOf c).toNat)
      case atStart => exact ⟨0, _, _, rfl, by omega, HS0, HL0⟩
      case round =>
        clear HS0 HL0
        obtain ⟨p, s, t, rfl, hp, HS, HLB⟩ := hrel
        obtain ⟨wA, rfl⟩ : ∃ wo : World, wo = wr := ⟨_, rfl⟩
        by_cases hpn : p < n
        · have hpo : p < o.length := by rw [HL.out, HNN.out]; exact hpn
          obtain ⟨g, rfl, hcell⟩ := (HV.out.call HLB.out).at hpo
          obtain ⟨i, hi⟩ : ∃ i, o.getD p 0 = i := ⟨_, rfl⟩
          have hoi : o[p]? = some i := by rw [← hi]; simp [List.getD, hpo]
          rw [hi] at hcell
          have HOI := Lib.hid hoi
          have hin : i < n := by
            have := HTO.out.lt (List.mem_of_getElem? hoi)
            rw [HNN.out] at this
            exact this
          have HIN := Lib.hid (show i < T.n by rw [HNN.out]; exact hin)
          clear hi hoi hpo
          have HRA := Lib.hid (HR.out.call HS.out.2.2.2.1)
          obtain ⟨a, rfl⟩ := HRA.out.1 (by rw [HNN.out]; omega)
          obtain ⟨c0, c1, c2, _⟩ := HRA.out.at HIN.out
          have HTK := Lib.hid (HOK.out.task i HIN.out)
          have hlcb := HTK.out.head.2.2.1
          obtain ⟨L, hL⟩ : ∃ x, T.len i = x := ⟨_, rfl⟩
          obtain ⟨Nb, hNb⟩ : ∃ x, T.nb i = x := ⟨_, rfl⟩
          obtain ⟨lc, hlcE⟩ : ∃ x, T.lc i = x := ⟨_, rfl⟩
          obtain ⟨al, hal⟩ : ∃ x, AL i = x := ⟨_, rfl⟩
          obtain ⟨cl, hcl⟩ : ∃ x, CL i = x := ⟨_, rfl⟩
          rw [hL] at c0
          rw [hNb] at c1
          rw [hal, hlcE, hcl] at c2
          rw [hlcE] at hlcb
          have i1 : (0 : Int) ≤ (i : Int) := by omega
          have i2 : (i : Int) < (n : Int) := by omega
          have HE := Lib.hid (And.intro hL (And.intro hNb (And.intro hlcE hal)))
          clear hL hNb hal hlcE hcl
          go_wp2_with fail
          clear c0 c1 c2 hcell
          go_loopw [10, 43] (fun f c wr => ∃ (F : Int) (k : Nat), f = .int .i64 F ∧ c = .int .i64 (k : Int) ∧ k ≤ lc ∧ Hid (F = T.mx s i k) ∧ Hid (ESt T o w w2.heap.size n p s t wr) ∧ Hid (Below w2.heap.size w2 wr)) (fun _ c _ => lc - (intOf c).toNat)
          case atStart => exact ⟨Nb, 0, rfl, rfl, by omega, Lib.hid HE.out.2.1.symm, HS, HLB⟩
          case round =>
            clear HRA HS HLB
            obtain ⟨F, k, rfl, rfl, hk, HF, HS, HLB⟩ := hrel
            obtain ⟨wB, rfl⟩ : ∃ wo : World, wo = wr := ⟨_, rfl⟩
            by_cases hkl : k < lc
            · have HKL := Lib.hid (show k < T.lc i by rw [HE.out.2.2.1]; exact hkl)
              have HRB := Lib.hid (HR.out.call HS.out.2.2.2.1)
              have hLK := HRB.out.links HIN.out
              rw [HE.out.2.2.1, HE.out.2.2.2] at hLK
              obtain ⟨b, rfl⟩ := hLK.1 (by omega)
              obtain ⟨d0, d1, d2⟩ := hLK.at hkl
              clear hLK
              obtain ⟨q1, _, q3⟩ := Plan.to_lt HOK.out HIN.out HKL.out
              have hwb := Plan.wait_bd HOK.out HIN.out HKL.out
              have hFb := Plan.mx_bd HOK.out HS.out.2.1 HIN.out (Nat.le_of_lt HKL.out)
              rw [← HF.out] at hFb
              have hW : ∀ w', PlanR w' (some a) AL AU CL CU T → Calls Tryd.prog 41 #[.slice (some a) T.n cap, .int .i64 (i : Int), .agg #[.int .i64 (T.lt i k), .int .i64 (T.lk i k), .int .i64 (T.lg i k)]] w' fun e w2 => e = .returned (.int .i64 (T.wait i k)) ∧ Below w'.heap.size w' w2 := fun w' h => wait_any (some a) cap AL AU CL CU T i k w' HOK.out HIN.out HKL.out h
              have hsb := HS.out.2.1.1 (T.to i k) q1
              have hcs := (HS.out.1.2 (T.to i k) (by rw [← HNN.out]; exact q1)).1.1
              rw [q3] at d0 hW
              obtain ⟨q, hq⟩ : ∃ x, T.to i k = x := ⟨_, rfl⟩
              obtain ⟨kk, hkk⟩ : ∃ x, T.lk i k = x := ⟨_, rfl⟩
              obtain ⟨gg, hgg⟩ : ∃ x, T.lg i k = x := ⟨_, rfl⟩
              obtain ⟨WT, hWT⟩ : ∃ x, T.wait i k = x := ⟨_, rfl⟩
              rw [hq] at d0 q1 hsb hcs
              rw [HNN.out] at q1
              rw [hkk] at d1
              rw [hgg] at d2
              rw [hWT] at hwb
              rw [hq, hkk, hgg, hWT, HNN.out] at hW
              obtain ⟨S, hS⟩ : ∃ x, s q = x := ⟨_, rfl⟩
              rw [hS] at hsb hcs
              have HMX := Lib.hid (show T.mx s i (k + 1) = max F (S + WT) by rw [HF.out, ← hS, ← hq, ← hWT]; rfl)
              have HW := Lib.hid hW
              have j1 : (0 : Int) ≤ (q : Int) := by omega
              have j2 : (q : Int) < (n : Int) := by omega
              have hbz := HS.out.2.2.2.1.size
              have hbz2 := HLB.out.size
              have HSA := Lib.hid (HS.out.call (Below.alloc (Below.refl _ _) (Nat.le_refl _) (.cells #[.int .i64 (q : Int), .int .i64 kk, .int .i64 gg] 43)))
              have HLA := Lib.hid (HLB.out.alloc hbz2 (.cells #[.int .i64 (q : Int), .int .i64 kk, .int .i64 gg] 43))
              have hcs2 := (World.cell?_alloc_lt wB (.cells #[.int .i64 (q : Int), .int .i64 kk, .int .i64 gg] 43) ⟨w2.heap.size, q * 2, none⟩ (HS.out.1.1)).trans hcs
              have r1 := cell_regrown hcs2
              have r2 := cell_regrown (show (wB.alloc (.cells #[.int .i64 (q : Int), .int .i64 kk, .int .i64 gg] 43)).cell? ⟨wB.heap.size, 0, none⟩ = some (.int .i64 (q : Int)) by simp)
              have r3 := cell_regrown (show (wB.alloc (.cells #[.int .i64 (q : Int), .int .i64 kk, .int .i64 gg] 43)).cell? ⟨wB.heap.size, 1, none⟩ = some (.int .i64 kk) by simp)
              have r4 := cell_regrown (show (wB.alloc (.cells #[.int .i64 (q : Int), .int .i64 kk, .int .i64 gg] 43)).cell? ⟨wB.heap.size, 2, none⟩ = some (.int .i64 gg) by simp)
              have HPB := Lib.hid (show p ≤ 60 by omega)
              clear hq hkk hgg hWT hS hW q3 hcs hcs2
              go_wp2_with fail
              refine wp_region_below (by kernel_rfl) (by kernel_rfl) ?_
              repeat (go_big_quiet_step ((go_at_call 41; exact Calls.regrown_of (HW.out _ (HR.out.call (HSA.out.2.2.2.1.trans ((below_regrown _ _ _).mono HSA.out.2.2.2.1.size)))))))
              refine wpQuiet_nil ?_
              intro w5 hb5
              have HS5 := Lib.hid (HSA.out.call hb5)
              have HL5 := Lib.hid (HLA.out.trans (hb5.mono HLA.out.size))
              clear hb5 r1 r2 r3 r4
              go_wp2_with fail
              go_roundw
              case rel => exact ⟨_, k + 1, rfl, by go_num, by omega, Lib.hid (by rw [HMX.out]; split <;> omega), HS5, HL5⟩
              case measure => simp [intOf]; omega
            · obtain rfl : lc = k := by omega
              have HRB := Lib.hid (HR.out.call HS.out.2.2.2.1)
              obtain ⟨c0, _⟩ := HRB.out.at HIN.out
              rw [HE.out.1] at c0
              have hLb := HTK.out.head.1
              rw [HE.out.1] at hLb
              have hFb := Plan.mx_bd HOK.out HS.out.2.1 HIN.out (m := lc) (by rw [HE.out.2.2.1]; exact Nat.le_refl _)
              rw [← HF.out] at hFb
              obtain ⟨⟨e1, e2⟩, e3, e4⟩ := HS.out.1.2 i hin
              have hst := HS.out.step HOK.out HTO.out HOI.out hin
              rw [HE.out.2.2.1, ← HF.out, HE.out.1] at hst
              have HST := Lib.hid hst
              have hBlt := HS.out.1.1
              have HLS := Lib.hid ((HLB.out.setCell (p := ⟨w2.heap.size, i * 2, none⟩) (Nat.le_refl _) (.int .i64 F)).setCell (p := ⟨w2.heap.size, i * 2 + 1, none⟩) (Nat.le_refl _) (.int .i64 (F + L)))
              clear hst
              go_wp2_with fail
              go_roundw
              case rel => exact ⟨p + 1, _, _, by go_num, by omega, HST, HLS⟩
              case measure => simp [intOf]; omega
        · obtain rfl : n = p := by omega
          go_wp2_with fail
          go_ret2
          refine ⟨HS.out.2.2.2.1, .inr ⟨HC.out, w2.heap.size, s, by rw [HNN.out]; rfl, HS.out.2.2.2.2, ?_, ?_, fun i hi => ?_⟩⟩
          · rw [HNN.out]
            refine HS.out.1.congr (fun _ _ => rfl) fun i hi => HS.out.2.2.1 i ?_
            rw [List.take_of_length_le (by rw [HL.out, HNN.out]; exact Nat.le_refl _)]
            exact HTO.out.full HL.out (by rw [HNN.out]; exact hi)
          · have h1 := HS.out.2.1
            rw [← HNN.out] at h1
            exact h1.fix HTO.out HL.out
          · have := HS.out.2.1.1 i hi
            omega
    · exact absurd HOK.out.full (hs.not_full hl)
  · have HC := Lib.hid hc
    have HV := Lib.hid (chk_pos hc)
    obtain ⟨n, hnn⟩ : ∃ x, T.n = x := ⟨_, rfl⟩
    rw [hnn] at hcheck ⊢
    clear hnn hc hn hlc
    go_enter Tryd.func27, Tryd.ntmps27
    go_wp2_with fail
    refine hcheck.mono ?_; rintro e w1 ⟨rfl, hb1⟩
    clear hcheck
    rw [HV.out]
    go_wp2_with fail
    go_ret2
    exact ⟨hb1, .inl ⟨HC.out, by rw [HV.out]; rfl⟩⟩
end Go.Proofs.YthhaopdimilmcaaDoor
