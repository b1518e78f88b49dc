/- The document's place. -/
import Derived.Test.YthhaopdimilmcaaDoorLvrC
namespace Go.Proofs.YthhaopdimilmcaaDoor
open Go.RowKit
/-- The candidates. -/
def candK (t : Nat → Int) (l : List Nat) (x : Int) (k : Nat) : Int := if k = 0 then x else t (l.getD (k - 1) 0)
theorem BestC.yes {P : Int → Prop} {t : Nat → Int} {l : List Nat} {x : Int} {k : Nat} {N y : Int} (h : BestC P t l x k N) (hx : 0 ≤ x) (hy : candK t l x k = y) (h1 : x ≤ y) (h2 : N < 0 ∨ y < N) (h3 : P y) : BestC P t l x (k + 1) y := by
  unfold candK at hy
  refine .inr ⟨h3, h1, ?_, fun y' hy' h4 h5 => ?_⟩
  · by_cases e : k = 0
    · rw [if_pos e] at hy; exact .inl ⟨by omega, hy.symm⟩
    · rw [if_neg e] at hy; exact .inr ⟨k - 1, by omega, hy.symm⟩
  · have hold : ((0 < k ∧ y' = x) ∨ ∃ j, j + 1 < k ∧ y' = t (l.getD j 0)) ∨ y' = y := by
      rcases hy' with ⟨_, e⟩ | ⟨j, e1, e2⟩
      · by_cases e0 : k = 0
        · rw [if_pos e0] at hy; exact .inr (by omega)
        · exact .inl (.inl ⟨by omega, e⟩)
      · by_cases e3 : j + 1 = k
        · rw [if_neg (by omega)] at hy
          have : k - 1 = j := by omega
          rw [this] at hy
          exact .inr (by omega)
        · exact .inl (.inr ⟨j, by omega, e2⟩)
    rcases hold with h6 | rfl
    · rcases h with ⟨_, g⟩ | ⟨_, g1, _, g⟩
      · exact absurd h5 (g y' h6 h4)
      · exact Int.le_trans (Int.le_of_lt (h2.resolve_left (Int.not_lt.2 (Int.le_trans hx g1)))) (g y' h6 h4 h5)
    · exact Int.le_refl _
theorem BestC.no {P : Int → Prop} {t : Nat → Int} {l : List Nat} {x : Int} {k : Nat} {N y : Int} (h : BestC P t l x k N) (hy : candK t l x k = y) (h1 : x ≤ y → (0 ≤ N ∧ N ≤ y) ∨ ¬ P y) : BestC P t l x (k + 1) N := by
  unfold candK at hy
  have hold : ∀ y', ((0 < k + 1 ∧ y' = x) ∨ ∃ j, j + 1 < k + 1 ∧ y' = t (l.getD j 0)) → ((0 < k ∧ y' = x) ∨ ∃ j, j + 1 < k ∧ y' = t (l.getD j 0)) ∨ y' = y := by
    intro y' hy'
    rcases hy' with ⟨_, e⟩ | ⟨j, e1, e2⟩
    · by_cases e0 : k = 0
      · rw [if_pos e0] at hy; exact .inr (by omega)
      · exact .inl (.inl ⟨by omega, e⟩)
    · by_cases e3 : j + 1 = k
      · rw [if_neg (by omega)] at hy
        have : k - 1 = j := by omega
        rw [this] at hy
        exact .inr (by omega)
      · exact .inl (.inr ⟨j, by omega, e2⟩)
  have hnew : ∀ y', ((0 < k ∧ y' = x) ∨ ∃ j, j + 1 < k ∧ y' = t (l.getD j 0)) → ((0 < k + 1 ∧ y' = x) ∨ ∃ j, j + 1 < k + 1 ∧ y' = t (l.getD j 0)) := by
    rintro y' (⟨e1, e2⟩ | ⟨j, e1, e2⟩)
    · exact .inl ⟨by omega, e2⟩
    · exact .inr ⟨j, by omega, e2⟩
  rcases h with ⟨g1, g2⟩ | ⟨g1, g2, g3, g4⟩
  · refine .inl ⟨g1, fun y' hy' h4 => ?_⟩
    rcases hold y' hy' with h5 | rfl
    · exact g2 y' h5 h4
    · rcases h1 h4 with h6 | h6
      · omega
      · exact h6
  · refine .inr ⟨g1, g2, hnew N g3, fun y' hy' h4 h5 => ?_⟩
    rcases hold y' hy' with h6 | rfl
    · exact g4 y' h6 h4 h5
    · rcases h1 h4 with h6 | h6
      · exact h6.2
      · exact absurd h5 h6
set_option maxRecDepth 100000 in
set_option maxHeartbeats 16000000 in
theorem refPlace_any (oa : Option Addr) (n cap : Nat) (AL AU : Nat → Option Addr) (CL CU : Nat → Nat) (T : Plan) (oh : Option Addr) (hn hc : Nat) (hv : Nat → Int) (B c2 : Nat) (ob : Option Addr) (m c3 b i : Nat) (f t : Nat → Int) (z : Nat → Bool) (l : List Nat) (w : World) (hnn : T.n = n) (hT : T.Ok) (hh6 : hn ≤ 1000000) (hi : i < n) (hlm : l.length = m) (hd : DoneL T l z) (ht : ∀ j, j ∈ l → t j = f j + T.len j) (hb : ∀ j, j < n → 0 ≤ f j ∧ f j ≤ 200000000) (hl : ∀ k, k < T.lc i → z (T.to i k) = true) (h0 : ∀ r, r < hn → T.use i r ≤ hv r)
    (hR : PlanR w oa AL AU CL CU T) (hH : IntsR w oh hn hv) (hO : OwnS w B n f t) (hI : IntsL w b (.slice ob m c3) l) :
    Calls Tryd.prog 39 #[.slice oa n cap, .slice oh hn hc, .slice (some ⟨B, 0, none⟩) n c2, .slice ob m c3, .int .i64 (i : Int)] w fun e w' => ∃ s : Int, e = .returned (.agg #[.int .i64 s, .int .i64 (s + T.len i)]) ∧ Srch (FitP T f t z n hn hv i) (fun x => laterF f t z x n) (T.mx f i (T.lc i)) s ∧ Below w.heap.size w w' := by
  obtain ⟨aa, rfl⟩ := hR.1 (by omega)
  have hn6 : n ≤ 60 := by rw [← hnn]; exact hT.size
  have hm6 : m ≤ 60 := by
    have h1 := hd.len
    have h2 := cntB_le z T.n
    omega
  obtain ⟨s0, hs1, hs2⟩ := srch_least (T := T) (f := f) (t := t) (z := z) (n := n) (hn := hn) (hv := hv) (i := i) h0 _ (T.mx f i (T.lc i)) rfl
  have hmxb := mx_bd2 hT (by rw [hnn]; exact hb) (show i < T.n by rw [hnn]; exact hi) (Nat.le_refl _)
  have hso := fun (w' : World) (h1 : PlanR w' (some aa) AL AU CL CU T) (h2 : OwnS w' B n f t) => soonest_any (some aa) cap AL AU CL CU T n B c2 i f t w' hnn hT hi hb (fun k hk => ht _ ((hd.mem _).2 (hl k hk))) h1 h2
  obtain ⟨X, hX⟩ : ∃ y, T.mx f i (T.lc i) = y := ⟨_, rfl⟩
  rw [hX] at hs1 hs2 hmxb ⊢
  simp only [hX] at hso
  have HSO := Lib.hid hso
  clear hso
  have HDN := Lib.hid (show ∀ N, BestC (FitP T f t z n hn hv i) t l X (m + 1) N → N = s0 from fun N h => by
    rw [← hlm] at h
    rw [← hnn] at hs2 h
    exact h.done hd hs2)
  have HS1 := Lib.hid hs1
  have hs0 : X ≤ s0 ∧ s0 ≤ 202000000 := by
    refine ⟨hs2.2.1, ?_⟩
    rcases hs2.2.2.1 with h | ⟨j, h1, h2, h3⟩
    · omega
    · have h4 := hb j h1
      have h5 := (hT.task j (by rw [hnn]; exact h1)).head.1
      rw [ht j ((hd.mem j).2 h2)] at h3
      omega
  have HENO := Lib.hid (fun (x : Int) (w' : World) (hx : 0 ≤ x ∧ x ≤ 4000000000) (hbw : Below w.heap.size w w') => refEnough_any (some aa) n cap AL AU CL CU T oh hn hc hv B c2 ob m c3 b i x f t z l w' hnn hT hh6 hi hx hlm hd ht (hR.call hbw) (hH.call hbw) (hO.call hbw) (hI.call hbw))
  have HR := Lib.hid hR
  have HO := Lib.hid hO
  have HI := Lib.hid hI
  have HNN := Lib.hid hnn
  have HLM := Lib.hid hlm
  have HLL := Lib.hid (show ∀ j, j ∈ l → j < n ∧ 0 ≤ t j ∧ t j ≤ 202000000 from fun j hj => by
    have h1 := hd.lt j hj
    have h2 := hb j (by rw [← hnn]; exact h1)
    have h3 := (hT.task j h1).head.1
    refine ⟨by rw [← hnn]; exact h1, ?_⟩
    rw [ht j hj]; omega)
  have hLn := (hT.task i (by rw [hnn]; exact hi)).head.1
  obtain ⟨L, hL⟩ : ∃ y, T.len i = y := ⟨_, rfl⟩
  rw [hL] at hLn ⊢
  have HL := Lib.hid hL
  have i1 : (0 : Int) ≤ (i : Int) := by omega
  have i2 : (i : Int) < (n : Int) := by omega
  have HBW := Lib.hid (Below.alloc (Below.refl w.heap.size w) (Nat.le_refl _) (.cells #[.int .i64 0, .int .i64 0] 38))
  have hsoon := fun (w' : World) (hb : Below w.heap.size w w') => HSO.out w' (hR.call hb) (hO.call hb)
  clear hR hH hO hI hnn hT hlm hd ht hb hl h0 hs1 hs2 hL hX
  go_enter Tryd.func39, Tryd.ntmps39
  go_wp2_with fail
  refine (hsoon _ HBW.out).mono ?_
  clear hsoon
  rintro e w1 ⟨rfl, hb1⟩
  have HB1 := Lib.hid (thenB HBW.out hb1)
  have HX1 := Lib.hid (show w1.cell? ⟨w.heap.size, 0, none⟩ = some (.int .i64 0) ∧ w1.cell? ⟨w.heap.size, 1, none⟩ = some (.int .i64 0) ∧ w1.frozen? ⟨w.heap.size, 0, none⟩ = false ∧ w1.frozen? ⟨w.heap.size, 1, none⟩ = false ∧ w.heap.size < w1.heap.size from
    ⟨(hb1.cell (p := ⟨w.heap.size, 0, none⟩) (by simp)).trans (by simp), (hb1.cell (p := ⟨w.heap.size, 1, none⟩) (by simp)).trans (by simp), (hb1.frozen (p := ⟨w.heap.size, 0, none⟩) (by simp)).trans (by simp), (hb1.frozen (p := ⟨w.heap.size, 1, none⟩) (by simp)).trans (by simp), Nat.lt_of_lt_of_le (by simp) hb1.size⟩)
  clear hb1 HBW
  go_wp2_with fail
  go_loopw [12, 13] (fun v c wr => ∃ (N C : Int), v = .int .i64 N ∧ c = .int .i64 C ∧ (-1 ≤ C ∧ C ≤ m) ∧ (-1 ≤ N ∧ N ≤ 202000000) ∧ Hid (BestC (FitP T f t z n hn hv i) t l X (C + 1).toNat N) ∧ Hid (Below w1.heap.size w1 wr)) (fun _ c _ => (m - intOf c).toNat)
  case atStart => exact ⟨-1, -1, rfl, rfl, by omega, by omega, Lib.hid (.inl ⟨rfl, fun y hy => by rcases hy with ⟨h, _⟩ | ⟨j, h, _⟩ <;> exact absurd h (by simp)⟩), Lib.hid (Below.refl _ _)⟩
  case round =>
    obtain ⟨N, C, rfl, rfl, hC, hN, HBC, HWB⟩ := hrel
    obtain ⟨wA, rfl⟩ : ∃ wo : World, wo = wr := ⟨_, rfl⟩
    by_cases hCm : C < m
    · have hlt : decide (C < (m : Int)) = true := decide_eq_true hCm
      have HB2 := Lib.hid (thenB HB1.out HWB.out)
      have hcand : ∃ y, candK t l X (C + 1).toNat = y ∧ 0 ≤ y ∧ y ≤ 202000000 := by
        refine ⟨_, rfl, ?_⟩
        unfold candK
        by_cases e : (C + 1).toNat = 0
        · rw [if_pos e]; omega
        · rw [if_neg e]
          have hk : (C + 1).toNat - 1 < l.length := by rw [HLM.out]; omega
          have : l.getD ((C + 1).toNat - 1) 0 = l[(C + 1).toNat - 1] := by simp [List.getD, hk]
          rw [this]
          exact (HLL.out _ (List.getElem_mem hk)).2
      obtain ⟨y, hy, hyb⟩ := hcand
      have HY := Lib.hid hy
      have hnx : (C + 1 + 1).toNat = (C + 1).toNat + 1 := by omega
      have HNX := Lib.hid hnx
      clear hy hnx
      have hcall := HENO.out y wA (by omega) HB2.out
      by_cases hneg : C = -1
      · subst hneg
        have hyx : X = y := by have := HY.out; unfold candK at this; simpa using this
        subst hyx
        have d1 : decide (X ≤ X) = true := by simp
        by_cases hN0 : N < 0
        · have d2 : decide (N < 0) = true := decide_eq_true hN0
          go_wp2_with fail
          refine hcall.mono ?_
          clear hcall
          rintro e w3 ⟨q, rfl, hq, hb3⟩
          have HQ := Lib.hid hq
          have HW3 := Lib.hid (thenB HWB.out hb3)
          clear hb3 hq
          cases q with
          | true =>
            go_wp2_with fail
            go_roundw
            case rel => exact ⟨X, _, rfl, rfl, by omega, by omega, Lib.hid (show BestC (FitP T f t z n hn hv i) t l X 1 X from HBC.out.yes (by omega) HY.out (Int.le_refl _) (.inl hN0) (HQ.out.1 (by simp))), HW3⟩
            case measure => simp [intOf] <;> omega
          | false =>
            go_wp2_with fail
            go_roundw
            case rel => exact ⟨N, _, rfl, rfl, by omega, hN, Lib.hid (show BestC (FitP T f t z n hn hv i) t l X 1 N from HBC.out.no HY.out (fun _ => .inr fun h => Bool.noConfusion (HQ.out.2 h))), HW3⟩
            case measure => simp [intOf] <;> omega
        · exfalso
          rcases HBC.out with ⟨h, _⟩ | ⟨_, _, h, _⟩
          · omega
          · rcases h with ⟨h, _⟩ | ⟨j, h, _⟩ <;> exact absurd h (by simp)
      · obtain ⟨j, rfl⟩ := Int.eq_ofNat_of_zero_le (show 0 ≤ C by omega)
        have hjl : j < l.length := by rw [HLM.out]; omega
        obtain ⟨g, rfl, hcc⟩ := (HI.out.call HB2.out).at hjl
        have hmem : l.getD j 0 ∈ l := by
          have : l.getD j 0 = l[j] := by simp [List.getD, hjl]
          rw [this]; exact List.getElem_mem hjl
        have hjn := (HLL.out _ hmem).1
        have hty : t (l.getD j 0) = y := by
          have := HY.out
          unfold candK at this
          rw [if_neg (by omega)] at this
          have e : ((j : Int) + 1).toNat - 1 = j := by omega
          rw [e] at this
          exact this
        obtain ⟨a, ha⟩ : ∃ a, l.getD j 0 = a := ⟨_, rfl⟩
        rw [ha] at hcc hjn hty
        obtain ⟨-, s1, -⟩ := (HO.out.call HB2.out).2 a hjn
        rw [hty] at s1
        have hBl := (HO.out.call HB2.out).1
        have hgl := World.block_lt_of_cell? _ _ hcc
        have j0 : (0 : Int) ≤ (j : Int) := by omega
        have j2 : (j : Int) < (m : Int) := by omega
        have a1 : (0 : Int) ≤ (a : Int) := by omega
        have a2 : (a : Int) < (n : Int) := by omega
        have d0 : decide ((0 : Int) ≤ (j : Int)) = true := decide_eq_true j0
        clear hmem hjl ha hty hneg
        by_cases hxy : X ≤ y
        · have d1 : decide (X ≤ y) = true := decide_eq_true hxy
          by_cases hN0 : N < 0 ∨ y < N
          · have HN0 := Lib.hid hN0
            have hgo : (decide (N < 0) = true) ∨ (decide (N < 0) = false ∧ decide (y < N) = true) := by
              by_cases h : N < 0
              · exact .inl (decide_eq_true h)
              · exact .inr ⟨decide_eq_false h, decide_eq_true (hN0.resolve_left h)⟩
            clear hN0
            rcases hgo with d2 | ⟨d2, d3⟩
            all_goals
              go_wp2_with fail
              refine hcall.mono ?_
              clear hcall
              rintro e w3 ⟨q, rfl, hq, hb3⟩
              have HQ := Lib.hid hq
              have HW3 := Lib.hid (thenB HWB.out hb3)
              clear hb3 hq hcc s1 hBl hgl
              cases q with
              | true =>
                go_wp2_with fail
                go_roundw
                case rel => exact ⟨y, _, rfl, rfl, by omega, by omega, Lib.hid (by rw [HNX.out]; exact HBC.out.yes (by omega) HY.out hxy HN0.out (HQ.out.1 (by simp))), HW3⟩
                case measure => simp [intOf]; omega
              | false =>
                go_wp2_with fail
                go_roundw
                case rel => exact ⟨N, _, rfl, rfl, by omega, hN, Lib.hid (by rw [HNX.out]; exact HBC.out.no HY.out (fun _ => .inr fun h => Bool.noConfusion (HQ.out.2 h))), HW3⟩
                case measure => simp [intOf]; omega
          · have d2 : decide (N < 0) = false := decide_eq_false (by omega)
            have d3 : decide (y < N) = false := decide_eq_false (by omega)
            have HN0 := Lib.hid (show 0 ≤ N ∧ N ≤ y by omega)
            clear hN0 hcall
            go_wp2_with fail
            go_roundw
            case rel => exact ⟨N, _, rfl, rfl, by omega, hN, Lib.hid (by rw [HNX.out]; exact HBC.out.no HY.out (fun _ => .inl HN0.out)), HWB⟩
            case measure => simp [intOf]; omega
        · have d1 : decide (X ≤ y) = false := decide_eq_false hxy
          have HXY := Lib.hid hxy
          clear hcall hxy
          go_wp2_with fail
          go_roundw
          case rel => exact ⟨N, _, rfl, rfl, by omega, hN, Lib.hid (by rw [HNX.out]; exact HBC.out.no HY.out (fun h => absurd h HXY.out)), HWB⟩
          case measure => simp [intOf]; omega
    · have hCE : C = (m : Int) := by omega
      subst hCE
      have hNs : N = s0 := HDN.out N (by have := HBC.out; rw [show ((m : Int) + 1).toNat = m + 1 by omega] at this; exact this)
      subst hNs
      have HB2 := Lib.hid (thenB HB1.out HWB.out)
      obtain ⟨c0, -, -, -⟩ := (HR.out.call HB2.out).at (show i < T.n by rw [HNN.out]; exact hi)
      rw [HL.out] at c0
      have hab := World.block_lt_of_cell? _ _ c0
      have HX2 := Lib.hid (show wA.cell? ⟨w.heap.size, 0, none⟩ = some (.int .i64 0) ∧ wA.cell? ⟨w.heap.size, 1, none⟩ = some (.int .i64 0) ∧ wA.frozen? ⟨w.heap.size, 0, none⟩ = false ∧ wA.frozen? ⟨w.heap.size, 1, none⟩ = false ∧ w.heap.size < wA.heap.size from
        ⟨(HWB.out.cell (p := ⟨w.heap.size, 0, none⟩) HX1.out.2.2.2.2).trans HX1.out.1, (HWB.out.cell (p := ⟨w.heap.size, 1, none⟩) HX1.out.2.2.2.2).trans HX1.out.2.1, (HWB.out.frozen (p := ⟨w.heap.size, 0, none⟩) HX1.out.2.2.2.2).trans HX1.out.2.2.1, (HWB.out.frozen (p := ⟨w.heap.size, 1, none⟩) HX1.out.2.2.2.2).trans HX1.out.2.2.2.1, Nat.lt_of_lt_of_le HX1.out.2.2.2.2 HWB.out.size⟩)
      obtain ⟨g1, g2, g3, g4, g5⟩ := HX2.out
      go_wp2_with fail
      have z0 : ((wA.setCell ⟨w.heap.size, 0, none⟩ (.int .i64 N)).setCell ⟨w.heap.size, 1, none⟩ (.int .i64 (N + L))).cell? ⟨w.heap.size, 0, none⟩ = some (.int .i64 N) := by
        rw [World.cell?_setCell_other _ _ _ _ (by intro e; cases congrArg Addr.off e)]
        exact World.cell?_setCell_same _ _ _ g1
      have z1 : ((wA.setCell ⟨w.heap.size, 0, none⟩ (.int .i64 N)).setCell ⟨w.heap.size, 1, none⟩ (.int .i64 (N + L))).cell? ⟨w.heap.size, 1, none⟩ = some (.int .i64 (N + L)) := by
        have g6 : (wA.setCell ⟨w.heap.size, 0, none⟩ (.int .i64 N)).cell? ⟨w.heap.size, 1, none⟩ = some (.int .i64 0) := by
          rw [World.cell?_setCell_other _ _ _ _ (by intro e; cases congrArg Addr.off e)]
          exact g2
        exact World.cell?_setCell_same _ _ _ g6
      refine bodyPost_ret (v := .agg #[.int .i64 N, .int .i64 (N + L)]) (by simp [results, Tryd.results39, go_sem, z0, z1]) rfl ⟨N, rfl, HS1.out, ?_⟩
      exact (HB2.out.setCell (p := ⟨w.heap.size, 0, none⟩) (Nat.le_refl _) _).setCell (p := ⟨w.heap.size, 1, none⟩) (Nat.le_refl _) _
end Go.Proofs.YthhaopdimilmcaaDoor
