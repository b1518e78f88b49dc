/- The program's place: a task gets the first place that it can have. -/
import Derived.Test.YthhaopdimilmcaaDoorLevE
import Derived.Test.YthhaopdimilmcaaDoorQTail
namespace Go.Proofs.YthhaopdimilmcaaDoor
open Go.RowKit
set_option maxRecDepth 100000 in
set_option maxHeartbeats 8000000 in
theorem place_any (K : Nat) (oa : Option Addr) (n cap : Nat) (AL AU : Nat → Option Addr) (CL CU : Nat → Nat) (T : Plan) (oh : Option Addr) (hn hc B I c : Nat) (hv f t : Nat → Int) (z : Nat → Bool) (M : Int) (i : Nat) (w : World) (hnn : T.n = n) (hT : T.Ok) (hh6 : hn ≤ 1000000) (hi : i < n)
    (hU : ∀ j r, 0 ≤ T.use j r ∧ T.use j r ≤ 1000000) (hM : 0 ≤ M ∧ M ≤ 1000000000) (hz : ∀ j, j < n → z j = true → 0 ≤ f j ∧ f j ≤ M ∧ t j ≤ M + 1000000) (hl : ∀ k, k < T.lc i → z (T.to i k) = true) (h0 : ∀ r, r < hn → T.use i r ≤ hv r)
    (hKB : K ≠ B) (hBI : B ≠ I) (hcB : c ≤ B) (hcI : c ≤ I)
    (hR : PlanR w oa AL AU CL CU T) (hH : IntsR w oh hn hv) (hK : LevB w K oa n cap oh hn hc B I) (hO : OwnS w B n f t) (hI : OwnI w I n (inZ z)) :
    Calls Tryd.prog 50 #[.pointer (some ⟨K, 0, none⟩), .int .i64 (i : Int)] w (PlaceR T B I n hn hv f t z M i c w) := by
  obtain ⟨a, rfl⟩ := hR.1 (by omega)
  have hn6 : n ≤ 60 := by rw [← hnn]; exact hT.size
  have HR := Lib.hid hR
  have HH := Lib.hid hH
  have HK := Lib.hid hK
  have HO := Lib.hid hO
  have HI := Lib.hid hI
  have HU := Lib.hid hU
  have HNN := Lib.hid hnn
  have HOK := Lib.hid hT
  have HZ := Lib.hid hz
  have HLK := Lib.hid hl
  have H0 := Lib.hid h0
  have HIN := Lib.hid (show i < T.n by rw [hnn]; exact hi)
  obtain ⟨c0, c1, c2, c3⟩ := hR.at HIN.out
  obtain ⟨kz, k0, -, -, -⟩ := hK
  have hab := World.block_lt_of_cell? _ _ c0
  have hhd := (hT.task i HIN.out).head
  obtain ⟨hLn, hNbn, hlcb, -⟩ := hhd
  obtain ⟨L, hL⟩ : ∃ x, T.len i = x := ⟨_, rfl⟩
  obtain ⟨Nb, hNb⟩ : ∃ x, T.nb i = x := ⟨_, rfl⟩
  obtain ⟨lc, hlcE⟩ : ∃ x, T.lc i = x := ⟨_, rfl⟩
  obtain ⟨uc, hucE⟩ : ∃ x, T.uc i = x := ⟨_, rfl⟩
  obtain ⟨al, hal⟩ : ∃ x, AL i = x := ⟨_, rfl⟩
  obtain ⟨au, hau⟩ : ∃ x, AU i = x := ⟨_, rfl⟩
  obtain ⟨cl, hcl⟩ : ∃ x, CL i = x := ⟨_, rfl⟩
  obtain ⟨cu, hcu⟩ : ∃ x, CU i = x := ⟨_, rfl⟩
  rw [hL] at c0 hLn
  rw [hNb] at c1 hNbn
  rw [hal, hlcE, hcl] at c2
  rw [hau, hucE, hcu] at c3
  rw [hlcE] at hlcb
  have HE := Lib.hid (And.intro hL (And.intro hNb (And.intro hlcE hal)))
  have i1 : (0 : Int) ≤ (i : Int) := by omega
  have i2 : (i : Int) < (n : Int) := by omega
  have HW0 := Lib.hid (Below.alloc (Below.refl w.heap.size w) (Nat.le_refl _) (.cells #[.int .i64 L, .int .i64 Nb, .slice al lc cl, .slice au uc cu] 34))
  have hx4 : (w.alloc (.cells #[.int .i64 L, .int .i64 Nb, .slice al lc cl, .slice au uc cu] 34)).cell? ⟨w.heap.size, 0, none⟩ = some (.int .i64 L) := by simp
  have HX4 := Lib.hid hx4
  clear hR hH hO hI hU hnn hT hz hl h0 hL hNb hlcE hucE hal hau hcl hcu hx4
  go_enter Tryd.func50, Tryd.ntmps50
  go_wp2_with fail
  clear c0 c1 c2 c3 k0 kz hab
  go_loopw [5, 20] (fun f0 c wr => ∃ (F : Int) (k : Nat), f0 = .int .i64 F ∧ c = .int .i64 (k : Int) ∧ k ≤ lc ∧ Hid (F = T.mx f i k) ∧ (0 ≤ F ∧ F ≤ M + 2000000) ∧ Hid (Below w.heap.size w wr) ∧ Hid (wr.cell? ⟨w.heap.size, 0, none⟩ = some (.int .i64 L) ∧ w.heap.size < wr.heap.size)) (fun _ c _ => lc - (intOf c).toNat)
  case atStart => exact ⟨Nb, 0, rfl, rfl, by omega, Lib.hid HE.out.2.1.symm, by omega, HW0, Lib.hid ⟨HX4.out, by simp⟩⟩
  case round =>
    clear HX4
    obtain ⟨F, k, rfl, rfl, hk, HF, hFb, HW, HX4⟩ := hrel
    obtain ⟨wB, rfl⟩ : ∃ wo : World, wo = wr := ⟨_, rfl⟩
    by_cases hkl : k < lc
    · have HKL := Lib.hid (show k < T.lc i by rw [HE.out.2.2.1]; exact hkl)
      have HRB := Lib.hid (HR.out.call HW.out)
      have hLK := HRB.out.links HIN.out
      rw [HE.out.2.2.1, HE.out.2.2.2] at hLK
      obtain ⟨b, rfl⟩ := hLK.1 (by omega)
      obtain ⟨d0, d1, d2⟩ := hLK.at hkl
      clear hLK
      obtain ⟨q1, _, q3⟩ := Plan.to_lt HOK.out HIN.out HKL.out
      have hwb := Plan.wait_bd HOK.out HIN.out HKL.out
      have hW : ∀ w', PlanR w' (some a) AL AU CL CU T → Calls Tryd.prog 41 #[.slice (some a) T.n cap, .int .i64 (i : Int), .agg #[.int .i64 (T.lt i k), .int .i64 (T.lk i k), .int .i64 (T.lg i k)]] w' fun e w2 => e = .returned (.int .i64 (T.wait i k)) ∧ Below w'.heap.size w' w2 := fun w' h => wait_any (some a) cap AL AU CL CU T i k w' HOK.out HIN.out HKL.out h
      have hsb := HZ.out (T.to i k) (by rw [← HNN.out]; exact q1) (HLK.out k HKL.out)
      have hcs := ((HO.out.call HW.out).2 (T.to i k) (by rw [← HNN.out]; exact q1)).1.1
      obtain ⟨kz, k0, -, k2, -⟩ := HK.out.call HW.out
      have hBz := (HO.out.call HW.out).1
      rw [q3] at d0 hW
      obtain ⟨q, hq⟩ : ∃ x, T.to i k = x := ⟨_, rfl⟩
      obtain ⟨kk, hkk⟩ : ∃ x, T.lk i k = x := ⟨_, rfl⟩
      obtain ⟨gg, hgg⟩ : ∃ x, T.lg i k = x := ⟨_, rfl⟩
      obtain ⟨WT, hWT⟩ : ∃ x, T.wait i k = x := ⟨_, rfl⟩
      rw [hq] at d0 q1 hsb hcs
      rw [HNN.out] at q1
      rw [hkk] at d1
      rw [hgg] at d2
      rw [hWT] at hwb
      rw [hq, hkk, hgg, hWT, HNN.out] at hW
      obtain ⟨S, hS⟩ : ∃ x, f q = x := ⟨_, rfl⟩
      rw [hS] at hsb hcs
      have HMX := Lib.hid (show T.mx f i (k + 1) = max F (S + WT) by rw [HF.out, ← hS, ← hq, ← hWT]; rfl)
      have HWT := Lib.hid hW
      have j1 : (0 : Int) ≤ (q : Int) := by omega
      have j2 : (q : Int) < (n : Int) := by omega
      have hbz := HW.out.size
      have HWA := Lib.hid (HW.out.alloc hbz (.cells #[.int .i64 (q : Int), .int .i64 kk, .int .i64 gg] 43))
      have HXA := Lib.hid (show (wB.alloc (.cells #[.int .i64 (q : Int), .int .i64 kk, .int .i64 gg] 43)).cell? ⟨w.heap.size, 0, none⟩ = some (.int .i64 L) ∧ w.heap.size < (wB.alloc (.cells #[.int .i64 (q : Int), .int .i64 kk, .int .i64 gg] 43)).heap.size from
        ⟨(World.cell?_alloc_lt wB _ ⟨w.heap.size, 0, none⟩ HX4.out.2).trans HX4.out.1, by have := HX4.out.2; simp; omega⟩)
      have r1 := cell_regrown ((World.cell?_alloc_lt wB (.cells #[.int .i64 (q : Int), .int .i64 kk, .int .i64 gg] 43) ⟨B, q * 2, none⟩ hBz).trans hcs)
      have r2 := cell_regrown (show (wB.alloc (.cells #[.int .i64 (q : Int), .int .i64 kk, .int .i64 gg] 43)).cell? ⟨wB.heap.size, 0, none⟩ = some (.int .i64 (q : Int)) by simp)
      have r3 := cell_regrown (show (wB.alloc (.cells #[.int .i64 (q : Int), .int .i64 kk, .int .i64 gg] 43)).cell? ⟨wB.heap.size, 1, none⟩ = some (.int .i64 kk) by simp)
      have r4 := cell_regrown (show (wB.alloc (.cells #[.int .i64 (q : Int), .int .i64 kk, .int .i64 gg] 43)).cell? ⟨wB.heap.size, 2, none⟩ = some (.int .i64 gg) by simp)
      have r5 := cell_regrown ((World.cell?_alloc_lt wB (.cells #[.int .i64 (q : Int), .int .i64 kk, .int .i64 gg] 43) ⟨K, 0, none⟩ kz).trans k0)
      have r6 := cell_regrown ((World.cell?_alloc_lt wB (.cells #[.int .i64 (q : Int), .int .i64 kk, .int .i64 gg] 43) ⟨K, 2, none⟩ kz).trans k2)
      clear hq hkk hgg hWT hS hW q3 hcs k0 k2
      go_wp2_with fail
      refine wp_region_below (by kernel_rfl) (by kernel_rfl) ?_
      repeat (go_big_quiet_step ((go_at_call 41; exact Calls.regrown_of (HWT.out _ (HR.out.call (HWA.out.trans ((below_regrown _ _ _).mono HWA.out.size)))))))
      refine wpQuiet_nil ?_
      intro w5 hb5
      have HW5 := Lib.hid (thenB HWA.out hb5)
      have HX5 := Lib.hid (show w5.cell? ⟨w.heap.size, 0, none⟩ = some (.int .i64 L) ∧ w.heap.size < w5.heap.size from ⟨(hb5.cell (p := ⟨w.heap.size, 0, none⟩) HXA.out.2).trans HXA.out.1, Nat.lt_of_lt_of_le HXA.out.2 hb5.size⟩)
      clear hb5 r1 r2 r3 r4 r5 r6
      go_wp2_with fail
      go_roundw
      case rel => exact ⟨_, k + 1, rfl, by go_num, by omega, Lib.hid (by rw [HMX.out]; split <;> omega), by split <;> omega, HW5, HX5⟩
      case measure => simp [intOf]; omega
    · obtain rfl : lc = k := by omega
      go_wp2_with fail
      go_loopw [5] (fun x wr => ∃ X : Int, x = .int .i64 X ∧ (0 ≤ X ∧ X ≤ M + 2000000) ∧ Hid (∀ s, Srch (FitP T f t z n hn hv i) (fun x => laterF f t z x n) X s → Srch (FitP T f t z n hn hv i) (fun x => laterF f t z x n) F s) ∧ Hid (Below w.heap.size w wr) ∧ Hid (wr.cell? ⟨w.heap.size, 0, none⟩ = some (.int .i64 L) ∧ w.heap.size < wr.heap.size)) (fun x _ => cntT t z (intOf x) n)
      case atStart => exact ⟨F, rfl, hFb, Lib.hid fun s h => h, HW, HX4⟩
      case round =>
        clear HW HX4
        obtain ⟨X, rfl, hX, HS, HW, HX4⟩ := hrel
        obtain ⟨wC, rfl⟩ : ∃ wo : World, wo = wr := ⟨_, rfl⟩
        have hcall := fits_any K (some a) n cap AL AU CL CU T oh hn hc B I hv f t z i X wC HNN.out hn6 hh6 hi HU.out (by omega) (by rw [HE.out.1]; exact hLn) (HR.out.call HW.out) (HH.out.call HW.out) (HK.out.call HW.out) (HO.out.call HW.out) (HI.out.call HW.out)
        go_wp2_with fail
        refine hcall.mono ?_
        clear hcall
        rintro e w2 ⟨b, rfl, hfit, hb2⟩
        have HFIT := Lib.hid hfit
        have HW2 := Lib.hid (thenB HW.out hb2)
        have HX2 := Lib.hid (show w2.cell? ⟨w.heap.size, 0, none⟩ = some (.int .i64 L) ∧ w.heap.size < w2.heap.size from ⟨(hb2.cell (p := ⟨w.heap.size, 0, none⟩) HX4.out.2).trans HX4.out.1, Nat.lt_of_lt_of_le HX4.out.2 hb2.size⟩)
        clear hb2 hfit
        cases b with
        | true =>
          have HST := Lib.hid (HS.out X (.stop (HFIT.out.1 rfl)))
          obtain ⟨kz, -, -, k2, k3⟩ := HK.out.call HW2.out
          obtain ⟨⟨e1, e2⟩, e3, e4⟩ := (HO.out.call HW2.out).2 i hi
          obtain ⟨e5, e6⟩ := (HI.out.call HW2.out).2 i hi
          have hBz := (HO.out.call HW2.out).1
          have hIz := (HI.out.call HW2.out).1
          obtain ⟨x1, x2⟩ := HX2.out
          have HO2 := Lib.hid (HO.out.call HW2.out)
          have HI2 := Lib.hid (HI.out.call HW2.out)
          obtain ⟨F0, hF0⟩ : ∃ x, f i = x := ⟨_, rfl⟩
          obtain ⟨T0, hT0⟩ : ∃ x, t i = x := ⟨_, rfl⟩
          obtain ⟨Z0, hZ0⟩ : ∃ x, inZ z i = x := ⟨_, rfl⟩
          rw [hF0] at e1
          rw [hT0] at e3
          rw [hZ0] at e5
          have r1 := cell_regrown k2
          have r2 := cell_regrown x1
          have r3 := cell_regrown e1
          have r4 := cell_regrown e3
          clear hF0 hT0 hZ0
          go_wp2_with fail
          go_region
          have HO5 := Lib.hid (show OwnS ((w2.setCell ⟨B, i * 2, none⟩ (.int .i64 X)).setCell ⟨B, i * 2 + 1, none⟩ (.int .i64 (X + L))).drew B n (Plan.upd f i X) (Plan.upd t i (X + L)) from (HO2.out.set0 hi X).set1 hi (X + L))
          have HI5 := Lib.hid (show OwnI ((w2.setCell ⟨B, i * 2, none⟩ (.int .i64 X)).setCell ⟨B, i * 2 + 1, none⟩ (.int .i64 (X + L))).drew I n (inZ z) from (HI2.out.far (p := ⟨B, i * 2, none⟩) hBI (.int .i64 X)).far (p := ⟨B, i * 2 + 1, none⟩) hBI (.int .i64 (X + L)))
          have hk5 : ((w2.setCell ⟨B, i * 2, none⟩ (.int .i64 X)).setCell ⟨B, i * 2 + 1, none⟩ (.int .i64 (X + L))).drew.cell? ⟨K, 3, none⟩ = some (.slice (some ⟨I, 0, none⟩) n n) := cell_far (p := ⟨B, i * 2 + 1, none⟩) (cell_far (p := ⟨B, i * 2, none⟩) k3 (fun e => hKB e.symm) _) (fun e => hKB e.symm) _
          have HB5 := Lib.hid (below_drew (((HW2.out.mono (show c ≤ w.heap.size by have := HO.out.1; omega)).setCell (p := ⟨B, i * 2, none⟩) hcB (.int .i64 X)).setCell (p := ⟨B, i * 2 + 1, none⟩) hcB (.int .i64 (X + L))))
          have HC5 := Lib.hid (show ∀ p u, p.block ≠ B → p.block ≠ I → w.cell? p = some u → ((w2.setCell ⟨B, i * 2, none⟩ (.int .i64 X)).setCell ⟨B, i * 2 + 1, none⟩ (.int .i64 (X + L))).drew.cell? p = some u from fun p u h1 _ h3 => cell_far (p := ⟨B, i * 2 + 1, none⟩) (cell_far (p := ⟨B, i * 2, none⟩) ((HW2.out.cell (World.block_lt_of_cell? _ _ h3)).trans h3) (fun e => h1 e.symm) _) (fun e => h1 e.symm) _)
          obtain ⟨w5, hw5⟩ : ∃ w5 : World, ((w2.setCell ⟨B, i * 2, none⟩ (.int .i64 X)).setCell ⟨B, i * 2 + 1, none⟩ (.int .i64 (X + L))).drew = w5 := ⟨_, rfl⟩
          rw [hw5] at HO5 HI5 hk5 HB5 HC5 ⊢
          clear r1 r2 r3 r4 e1 e2 e3 e4 e5 e6 kz k2 k3 x1 x2 hw5 hBz hIz
          obtain ⟨e5, e6⟩ := HI5.out.2 i hi
          have hIz := HI5.out.1
          have HO6 := Lib.hid (HO5.out.far (p := ⟨I, i, none⟩) (fun e => hBI e.symm) (.int .i64 1))
          have HI6 := Lib.hid (show OwnI (w5.setCell ⟨I, i, none⟩ (.int .i64 1)) I n (inZ (updZ z i)) from by rw [inZ_upd]; exact HI5.out.set hi 1)
          have HB6 := Lib.hid (HB5.out.setCell (p := ⟨I, i, none⟩) hcI (.int .i64 1))
          obtain ⟨Z1, hZ1⟩ : ∃ x, inZ z i = x := ⟨_, rfl⟩
          rw [hZ1] at e5
          clear hZ1
          go_wp2_with fail
          go_end0
          exact ⟨⟨_, rfl⟩, X, by rw [HE.out.2.2.1, ← HF.out]; exact HST.out, by omega, by rw [HE.out.1]; exact HO6.out, HI6.out, fun p u h1 h2 h3 => cell_far (p := ⟨I, i, none⟩) (HC5.out p u h1 h2 h3) (fun e => h2 e.symm) _, HB6.out⟩
        | false =>
          have HNF := Lib.hid (show ¬ FitP T f t z n hn hv i X from fun h => Bool.noConfusion (HFIT.out.2 h))
          have hlat := later_any K (some a) n cap oh hn hc B I f t z X w2 (by omega) (HK.out.call HW2.out) (HO.out.call HW2.out) (HI.out.call HW2.out)
          obtain ⟨g1, ⟨j, g2, g3, g4⟩, g5⟩ := nofit_later H0.out HNF.out
          have g6 := HZ.out j g2 g3
          have HS3 := Lib.hid (fun s (h : Srch (FitP T f t z n hn hv i) (fun x => laterF f t z x n) (laterF f t z X n) s) => HS.out s (.step HNF.out h))
          rw [← g4] at g6
          have HG5 := Lib.hid g5
          clear g2 g3 g4 g5
          go_wp2_with fail
          refine hlat.mono ?_
          clear hlat
          rintro e w3 ⟨rfl, hb3⟩
          have HW3 := Lib.hid (thenB HW2.out hb3)
          have HX3 := Lib.hid (show w3.cell? ⟨w.heap.size, 0, none⟩ = some (.int .i64 L) ∧ w.heap.size < w3.heap.size from ⟨(hb3.cell (p := ⟨w.heap.size, 0, none⟩) HX2.out.2).trans HX2.out.1, Nat.lt_of_lt_of_le HX2.out.2 hb3.size⟩)
          clear hb3
          go_wp2_with fail
          go_roundw
          case rel => exact ⟨_, rfl, by omega, HS3, HW3, HX3⟩
          case measure => exact HG5.out
end Go.Proofs.YthhaopdimilmcaaDoor
