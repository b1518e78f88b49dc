/- The document's use and Used. -/
import Derived.Test.YthhaopdimilmcaaDoorLvrA
import Derived.Test.YthhaopdimilmcaaDoorRefJ
namespace Go.Proofs.YthhaopdimilmcaaDoor
open Go.RowKit
def usd (T : Plan) (i r : Nat) : Int := if T.len i = 0 then 0 else T.use i r
set_option maxHeartbeats 2000000 in
theorem refUse_one (L Nb : Int) (al : Option Addr) (lc cl : Nat) (au : Option Addr) (uc cu r : Nat) (u : Nat → Int) (w : World) (hU : IntsR w au uc u) :
    Calls Tryd.prog 60 #[.agg #[.int .i64 L, .int .i64 Nb, .slice al lc cl, .slice au uc cu], .int .i64 (r : Int)] w fun e w' => e = .returned (.int .i64 (if L = 0 then 0 else if r < uc then u r else 0)) ∧ Below w.heap.size w w' := by
  have HB := Lib.hid (Below.alloc (Below.refl w.heap.size w) (Nat.le_refl _) (.cells #[.int .i64 L, .int .i64 Nb, .slice al lc cl, .slice au uc cu] 34))
  by_cases h : r < uc
  · rw [if_pos h]
    obtain ⟨b, rfl⟩ := hU.1 (by omega)
    have hc := hU.at h
    have hbl := World.block_lt_of_cell? _ _ hc
    obtain ⟨U, hUE⟩ : ∃ x, u r = x := ⟨_, rfl⟩
    rw [hUE] at hc ⊢
    have hd : decide ((uc : Int) ≤ (r : Int)) = false := decide_eq_false (by omega)
    have r1 : (0 : Int) ≤ (r : Int) := by omega
    have r2 : (r : Int) < (uc : Int) := by omega
    clear hU hUE
    by_cases hL : L = 0
    · rw [if_pos hL]
      have hLb : (L == 0) = true := by simpa using hL
      clear hL
      go_enter Tryd.func60, Tryd.ntmps60
      go_wp2_with fail
      go_ret
      exact ⟨rfl, HB.out⟩
    · rw [if_neg hL]
      have hLb : (L == 0) = false := by simpa using hL
      clear hL
      go_enter Tryd.func60, Tryd.ntmps60
      go_wp2_with fail
      go_ret
      exact ⟨rfl, HB.out⟩
  · rw [if_neg h]
    have hd : decide ((uc : Int) ≤ (r : Int)) = true := decide_eq_true (by omega)
    have e0 : (if L = 0 then (0 : Int) else 0) = 0 := by split <;> rfl
    rw [e0]
    clear hU e0
    go_enter Tryd.func60, Tryd.ntmps60
    go_wp2_with fail
    go_ret
    exact ⟨rfl, HB.out⟩
theorem refUse_at {w : World} {aa : Addr} {AL AU : Nat → Option Addr} {CL CU : Nat → Nat} {T : Plan} (hR : PlanR w (some aa) AL AU CL CU T) {j : Nat} (hj : j < T.n) : ∃ Nb al lc cl au uc cu, w.cell? (aa.add (j * 4)) = some (.int .i64 (T.len j)) ∧ w.cell? { block := (aa.add (j * 4)).block, off := (aa.add (j * 4)).off + 1 } = some (.int .i64 Nb) ∧ w.cell? { block := (aa.add (j * 4)).block, off := (aa.add (j * 4)).off + 2 } = some (.slice al lc cl) ∧ w.cell? { block := (aa.add (j * 4)).block, off := (aa.add (j * 4)).off + 3 } = some (.slice au uc cu) ∧
    ∀ (r : Nat) w', Below w.heap.size w w' → Calls Tryd.prog 60 #[.agg #[.int .i64 (T.len j), .int .i64 Nb, .slice al lc cl, .slice au uc cu], .int .i64 (r : Int)] w' fun e w2 => e = .returned (.int .i64 (usd T j r)) ∧ Below w'.heap.size w' w2 := by
  obtain ⟨c0, c1, c2, c3⟩ := hR.at hj
  exact ⟨_, _, _, _, _, _, _, c0, c1, c2, c3, fun r w' hb => by unfold usd; rw [Plan.use_lt hj]; exact refUse_one _ _ _ _ _ _ _ _ r _ w' ((hR.call hb).ints hj)⟩
set_option maxRecDepth 100000 in
set_option maxHeartbeats 8000000 in
theorem refUsed_any (oa : Option Addr) (n cap : Nat) (AL AU : Nat → Option Addr) (CL CU : Nat → Nat) (T : Plan) (B c2 : Nat) (ob : Option Addr) (m c3 b r : Nat) (x : Int) (f t : Nat → Int) (l : List Nat) (w : World) (hnn : T.n = n) (hT : T.Ok) (hm6 : m ≤ 1000) (hlm : l.length = m) (hl : ∀ j, j ∈ l → j < n) (ht : ∀ j, j ∈ l → t j = f j + T.len j)
    (hR : PlanR w oa AL AU CL CU T) (hO : OwnS w B n f t) (hI : IntsL w b (.slice ob m c3) l) :
    Calls Tryd.prog 61 #[.slice oa n cap, .slice (some ⟨B, 0, none⟩) n c2, .slice ob m c3, .int .i64 (r : Int), .int .i64 x] w fun e w' => e = .returned (.int .i64 (sumT (useAt T f t r x) l m)) ∧ Below w.heap.size w w' := by
  have HR := Lib.hid hR
  have HO := Lib.hid hO
  have HI := Lib.hid hI
  have HNN := Lib.hid hnn
  have HOK := Lib.hid hT
  have HLM := Lib.hid hlm
  have HL := Lib.hid hl
  have HT := Lib.hid ht
  clear hR hO hI hnn hT hlm hl ht
  go_enter Tryd.func61, Tryd.ntmps61
  go_wp2_with fail
  go_loopw [11, 16] (fun s c wr => ∃ (N : Int) (k : Nat), s = .int .i64 N ∧ c = .int .i64 (k : Int) ∧ k ≤ m ∧ Hid (N = sumT (useAt T f t r x) l k) ∧ Hid (Below w.heap.size w wr)) (fun _ c _ => m - (intOf c).toNat)
  case atStart => exact ⟨0, 0, rfl, rfl, by omega, Lib.hid rfl, Lib.hid (Below.refl _ _)⟩
  case round =>
    obtain ⟨N, k, rfl, rfl, hk, HN, HW⟩ := hrel
    obtain ⟨wA, rfl⟩ : ∃ wo : World, wo = wr := ⟨_, rfl⟩
    by_cases hkm : k < m
    · have HIA := Lib.hid (HI.out.call HW.out)
      have hkl : k < l.length := by rw [HLM.out]; exact hkm
      obtain ⟨g, rfl, hc⟩ := HIA.out.at hkl
      have hmem : l.getD k 0 ∈ l := by
        have : l.getD k 0 = l[k] := by simp [List.getD, hkl]
        rw [this]; exact List.getElem_mem hkl
      have hjn := HL.out _ hmem
      have htj := HT.out _ hmem
      have hst : sumT (useAt T f t r x) l (k + 1) = sumT (useAt T f t r x) l k + useAt T f t r x (l.getD k 0) := rfl
      have hbd := sumT_bd (fun j => useAt_bd HOK.out f t r x j) l k
      have hub := use_bd HOK.out (l.getD k 0) r
      obtain ⟨j, hj⟩ : ∃ j, l.getD k 0 = j := ⟨_, rfl⟩
      rw [hj] at hc hjn htj hst hub
      rw [← HN.out] at hst hbd
      have HST := Lib.hid hst
      obtain ⟨⟨s0, -⟩, s1, -⟩ := (HO.out.call HW.out).2 j hjn
      have hBl := (HO.out.call HW.out).1
      have hgl := World.block_lt_of_cell? _ _ hc
      have k1 : (0 : Int) ≤ (k : Int) := by omega
      have k2 : (k : Int) < (m : Int) := by omega
      have j1 : (0 : Int) ≤ (j : Int) := by omega
      have j2 : (j : Int) < (n : Int) := by omega
      have HRA := Lib.hid (HR.out.call HW.out)
      obtain ⟨a, rfl⟩ := HRA.out.1 (by rw [HNN.out]; omega)
      obtain ⟨Nb, al, lc, cl, au, uc, cu, t0, t1, t2, t3, huse⟩ := refUse_at HRA.out (show j < T.n by rw [HNN.out]; exact hjn)
      have hus := huse r wA (Below.refl _ _)
      have hab := World.block_lt_of_cell? _ _ t0
      obtain ⟨F, hF⟩ : ∃ y, f j = y := ⟨_, rfl⟩
      obtain ⟨TT, hTT⟩ : ∃ y, t j = y := ⟨_, rfl⟩
      obtain ⟨L, hL⟩ : ∃ y, T.len j = y := ⟨_, rfl⟩
      obtain ⟨U, hU⟩ : ∃ y, T.use j r = y := ⟨_, rfl⟩
      have hua : useAt T f t r x j = if F ≤ x ∧ x < TT then U else 0 := by unfold useAt; rw [hF, hTT, hU]
      have hsd : F ≤ x → x < TT → usd T j r = U := fun h1 h2 => by
        unfold usd
        rw [hF, hTT, hL] at htj
        rw [if_neg (by rw [hL]; omega), hU]
      rw [hL] at t0 hus
      rw [hF] at s0
      rw [hTT] at s1
      rw [hU] at hub
      have HUA := Lib.hid hua
      have HSD := Lib.hid hsd
      clear huse hmem hkl hj htj hst hF hTT hL hU hua hsd
      by_cases h1 : F ≤ x
      · have d1 : decide (F ≤ x) = true := decide_eq_true h1
        by_cases h2 : x < TT
        · have d2 : decide (x < TT) = true := decide_eq_true h2
          have HS2 := Lib.hid (show sumT (useAt T f t r x) l (k + 1) = N + U by rw [HST.out, HUA.out, if_pos ⟨h1, h2⟩])
          rw [HSD.out h1 h2] at hus
          clear h1 h2
          go_wp2_with fail
          refine hus.mono ?_
          clear hus
          rintro e w2 ⟨rfl, hb2⟩
          have HW2 := Lib.hid (thenB HW.out hb2)
          clear hb2 hc s0 s1 hBl hgl t0 t1 t2 t3 hab
          go_wp2_with fail
          go_roundw
          case rel => exact ⟨N + U, k + 1, by go_num, by go_num, by omega, Lib.hid HS2.out.symm, HW2⟩
          case measure => simp [intOf]; omega
        · have d2 : decide (x < TT) = false := decide_eq_false h2
          have HS2 := Lib.hid (show sumT (useAt T f t r x) l (k + 1) = N by rw [HST.out, HUA.out, if_neg (fun h => h2 h.2)]; omega)
          clear h1 h2 hus
          go_wp2_with fail
          go_roundw
          case rel => exact ⟨N, k + 1, rfl, by go_num, by omega, Lib.hid HS2.out.symm, HW⟩
          case measure => simp [intOf]; omega
      · have d1 : decide (F ≤ x) = false := decide_eq_false h1
        have HS2 := Lib.hid (show sumT (useAt T f t r x) l (k + 1) = N by rw [HST.out, HUA.out, if_neg (fun h => h1 h.1)]; omega)
        clear h1 hus
        go_wp2_with fail
        go_roundw
        case rel => exact ⟨N, k + 1, rfl, by go_num, by omega, Lib.hid HS2.out.symm, HW⟩
        case measure => simp [intOf]; omega
    · obtain rfl : m = k := by omega
      go_wp2_with fail
      go_ret
      exact ⟨by rw [← HN.out]; rfl, HW.out⟩
end Go.Proofs.YthhaopdimilmcaaDoor
