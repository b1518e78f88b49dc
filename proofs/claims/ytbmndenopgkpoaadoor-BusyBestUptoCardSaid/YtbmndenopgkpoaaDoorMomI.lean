/- NEWV And. -/
import Derived.Test.YtbmndenopgkpoaaDoorMomH
namespace Go.Proofs.YtbmndenopgkpoaaDoor
open Go.RowKit
def crossK (a b : List Iv) (i j : Nat) : List Iv := crossM (a.take i) b ++ (b.take j).map fun q => (max (a.getD i iv0).1 q.1, min (a.getD i iv0).2 q.2)
theorem crossK_zero (a b : List Iv) (i : Nat) : crossK a b i 0 = crossM (a.take i) b := by simp [crossK]
theorem crossK_step {a b : List Iv} {i j : Nat} (hj : j < b.length) : crossK a b i (j + 1) = crossK a b i j ++ [(max (a.getD i iv0).1 (b.getD j iv0).1, min (a.getD i iv0).2 (b.getD j iv0).2)] := by
  unfold crossK
  rw [List.take_add_one, iv_get hj]
  simp
theorem crossK_full {a b : List Iv} {i : Nat} (hi : i < a.length) : crossK a b i b.length = crossM (a.take (i + 1)) b := by
  unfold crossK crossM
  rw [List.take_length, List.take_add_one (l := a), iv_get hi]
  simp
theorem mul_bd {i j n m N : Nat} (hi : i < n) (hj : j ≤ m) (h : n * m ≤ N) : i * m + j ≤ N := by
  have h1 : (i + 1) * m ≤ n * m := Nat.mul_le_mul_right _ hi
  rw [Nat.add_mul] at h1
  omega
set_option maxRecDepth 100000 in
set_option maxHeartbeats 8000000 in
theorem and_any (v0 v1 : Value) (la lb : List Iv) (w : World) (h0 : IvS w v0 la) (h1 : IvS w v1 lb) (hl : la.length * lb.length ≤ 1000000000) (ha : la.length ≤ 1000000000) (hb : lb.length ≤ 1000000000) (hn0 : Norm la) :
    Calls Tryd.prog 25 #[.agg #[v0], .agg #[v1]] w (SetR (AndM la lb) w) := by
  have HN0 := Lib.hid hn0
  obtain ⟨ob0, cap0, rfl, -, hR0⟩ := h0
  obtain ⟨ob1, cap1, rfl, -, hR1⟩ := h1
  obtain ⟨n, hm0⟩ : ∃ n, la.length = n := ⟨_, rfl⟩
  obtain ⟨m, hm1⟩ : ∃ n, lb.length = n := ⟨_, rfl⟩
  have HM0 := Lib.hid hm0
  have HM1 := Lib.hid hm1
  have HR0 := Lib.hid hR0
  have HR1 := Lib.hid hR1
  rw [hm0, hm1] at hl
  rw [hm0] at ha ⊢
  rw [hm1] at hb ⊢
  have HNM := Lib.hid hl
  clear hn0 hR0 hR1 hm0 hm1 hl
  obtain ⟨i0, hi0, hz0, hz1, hz2⟩ := info_parts span_info2
  go_enter Tryd.func25, Tryd.ntmps25
  go_wp2_with fail
  have HB0 := Lib.hid (((Below.alloc (Below.refl w.heap.size w) (Nat.le_refl _) (.cells #[.slice ob0 n cap0] 31)).alloc (by simp) (.cells #[.slice ob1 m cap1] 31)).alloc (by simp; omega) (.cells #[.slice none 0 0] 31))
  obtain ⟨w0, hw0⟩ : ∃ x, ((w.alloc (.cells #[.slice ob0 n cap0] 31)).alloc (.cells #[.slice ob1 m cap1] 31)).alloc (.cells #[.slice none 0 0] 31) = x := ⟨_, rfl⟩
  have HC0 := Lib.hid (show w0.cell? ⟨w.heap.size + 2, 0, none⟩ = some (.slice none 0 0) ∧ w0.frozen? ⟨w.heap.size + 2, 0, none⟩ = false ∧ w0.heap.size = w.heap.size + 3 ∧ w0.cell? ⟨w.heap.size + 1, 0, none⟩ = some (.slice ob1 m cap1) by rw [← hw0]; simp [go_sem])
  rw [hw0] at HB0 ⊢
  clear hw0
  go_loopw [5, 13] (fun v c wr => ∃ (og : Option Addr) (p cg i : Nat), v = .slice og p cg ∧ c = .int .i64 (i : Int) ∧ i ≤ n ∧ p ≤ 1000000000 ∧ Hid (p = i * m) ∧ Hid (wr.ownsRow w0.heap.size 55 2 (.slice og p cg) p (ivV (crossM (la.take i) lb))) ∧ Hid (Below w0.heap.size w0 wr)) (fun _ c _ => n - (intOf c).toNat)
  case atStart => exact ⟨none, 0, 0, 0, rfl, rfl, by omega, by omega, Lib.hid (by omega), Lib.hid (World.ownsRow_nil _ _ _ _), Lib.hid (Below.refl _ _)⟩
  case round =>
    obtain ⟨og, p, cg, i, rfl, rfl, hi, hp, HP, HO, HW⟩ := hrel
    obtain ⟨wA, rfl⟩ : ∃ wo : World, wo = wr := ⟨_, rfl⟩
    by_cases hin : i < n
    · have hil : i < la.length := by rw [HM0.out]; exact hin
      have HIL := Lib.hid hil
      have HRA := Lib.hid (HR0.out.call (thenB HB0.out HW.out))
      obtain ⟨a, rfl⟩ := HRA.out.1 (by omega)
      obtain ⟨c0, c1⟩ := HRA.out.at hil
      obtain ⟨X, hX⟩ : ∃ x, (la.getD i iv0).1 = x := ⟨_, rfl⟩
      obtain ⟨Y, hY⟩ : ∃ x, (la.getD i iv0).2 = x := ⟨_, rfl⟩
      rw [hX] at c0
      rw [hY] at c1
      have HXY := Lib.hid (And.intro hX hY)
      have hab := World.block_lt_of_cell? _ _ c0
      have q1 := (HW.out.cell (p := ⟨w.heap.size + 1, 0, none⟩) (by rw [HC0.out.2.2.1]; show w.heap.size + 1 < _; omega)).trans HC0.out.2.2.2
      have q2 := World.block_lt_of_cell? _ _ q1
      have i1 : (0 : Int) ≤ (i : Int) := by omega
      have i2 : (i : Int) < (n : Int) := by omega
      have HW1 := Lib.hid (HW.out.alloc HW.out.size (.cells #[.int .i64 X, .int .i64 Y] 55))
      have HO1 := Lib.hid (show (wA.alloc (.cells #[.int .i64 X, .int .i64 Y] 55)).ownsRow w0.heap.size 55 2 (.slice og p cg) p (ivV (crossK la lb i 0)) by rw [crossK_zero]; exact ivOwn_call HO.out (Below.alloc (Below.refl _ _) (Nat.le_refl _) (.cells #[.int .i64 X, .int .i64 Y] 55)))
      have HBX := Lib.hid (show (wA.alloc (.cells #[.int .i64 X, .int .i64 Y] 55)).cell? ⟨wA.heap.size, 0, none⟩ = some (.int .i64 X) ∧ (wA.alloc (.cells #[.int .i64 X, .int .i64 Y] 55)).cell? ⟨wA.heap.size, 1, none⟩ = some (.int .i64 Y) ∧ wA.heap.size < (wA.alloc (.cells #[.int .i64 X, .int .i64 Y] 55)).heap.size by simp)
      have HNB := Lib.hid (show ∀ k, Value.ownBlock (.slice og p cg) = some k → k ≠ wA.heap.size from fun k hk => by have := (HO.out.lt k hk).2; omega)
      clear hil hX hY
      go_wp2_with fail
      clear c0 c1 q1 q2 hab
      go_loopw [5, 20] (fun v c wr => ∃ (oh : Option Addr) (r ch j : Nat), v = .slice oh r ch ∧ c = .int .i64 (j : Int) ∧ j ≤ m ∧ r ≤ 1000000000 ∧ Hid (r = i * m + j) ∧ Hid (wr.ownsRow w0.heap.size 55 2 (.slice oh r ch) r (ivV (crossK la lb i j))) ∧ Hid (Below w0.heap.size w0 wr) ∧ Hid (wr.cell? ⟨wA.heap.size, 0, none⟩ = some (.int .i64 X) ∧ wr.cell? ⟨wA.heap.size, 1, none⟩ = some (.int .i64 Y) ∧ wA.heap.size < wr.heap.size) ∧ Hid (∀ k, Value.ownBlock (.slice oh r ch) = some k → k ≠ wA.heap.size)) (fun _ c _ => m - (intOf c).toNat)
      case atStart => exact ⟨og, p, cg, 0, rfl, rfl, by omega, hp, Lib.hid (by rw [HP.out]; omega), HO1, HW1, HBX, HNB⟩
      case round =>
        clear HO HW HO1 HW1 HBX HNB
        obtain ⟨oh, r, ch, j, rfl, rfl, hj, hr, HPR, HO, HW, HBX, HNB⟩ := hrel
        obtain ⟨wB, rfl⟩ : ∃ wo : World, wo = wr := ⟨_, rfl⟩
        by_cases hjm : j < m
        · have hjl : j < lb.length := by rw [HM1.out]; exact hjm
          have HRB := Lib.hid (HR1.out.call (thenB HB0.out HW.out))
          obtain ⟨b, rfl⟩ := HRB.out.1 (by omega)
          obtain ⟨c0, c1⟩ := HRB.out.at hjl
          have hst := crossK_step (a := la) (i := i) hjl
          have hbd : r + 1 ≤ 1000000000 := by
            have := mul_bd (i := i) (j := j + 1) hin (by omega) HNM.out
            rw [HPR.out]; omega
          obtain ⟨A, hA⟩ : ∃ x, (lb.getD j iv0).1 = x := ⟨_, rfl⟩
          obtain ⟨C, hC⟩ : ∃ x, (lb.getD j iv0).2 = x := ⟨_, rfl⟩
          rw [hA] at c0 hst
          rw [hC] at c1 hst
          rw [HXY.out.1, HXY.out.2] at hst
          have HST := Lib.hid hst
          have hab := World.block_lt_of_cell? _ _ c0
          obtain ⟨x1, x2, x3⟩ := HBX.out
          have j1 : (0 : Int) ≤ (j : Int) := by omega
          have j2 : (j : Int) < (m : Int) := by omega
          have HW2 := Lib.hid (HW.out.alloc HW.out.size (.cells #[.int .i64 A, .int .i64 C] 55))
          have HO2 := Lib.hid (ivOwn_call HO.out (Below.alloc (Below.refl _ _) (Nat.le_refl _) (.cells #[.int .i64 A, .int .i64 C] 55)))
          clear hjl hA hC hst
          go_wp2_with (at_builtin; refine wpList_append_lies _ rfl (.tmp 24) (.tmp 36) 29 rfl w0.heap.size 55 i0 (.agg #[.int .i64 0, .int .i64 0]) 2 16 Tryd.underlying29 hi0 hz0 hz1 hz2 rfl (by decide) _ r (ivV (crossK la lb i j)) rfl (HO2.out.alloc _) _ 1 1 [.int .i64 (max X A), .int .i64 (min Y C)] rfl rfl (cells_ivs (by simp) _ _) (by simp [Value.oneCell']) (by omega) (by unfold maxLen; omega) (by omega) (by have := HW2.out.size; simp at *; omega) _ rfl ?_; intro g3 c3 w3 hown hgrow hor hgl)
          have hlt8 := HO2.out.lt
          have hsz : wA.heap.size < ((wB.alloc (.cells #[.int .i64 A, .int .i64 C] 55)).alloc (.cells #[.int .i64 (max X A), .int .i64 (min Y C)] 55)).heap.size := by simp; omega
          have hne : some wA.heap.size ≠ Value.ownBlock (.slice oh r ch) := fun e => HNB.out _ e.symm rfl
          have HBX3 := Lib.hid (show w3.cell? ⟨wA.heap.size, 0, none⟩ = some (.int .i64 X) ∧ w3.cell? ⟨wA.heap.size, 1, none⟩ = some (.int .i64 Y) ∧ wA.heap.size < w3.heap.size from
            ⟨(hgrow.cell_far ⟨wA.heap.size, 0, none⟩ hsz hne).trans (by rw [World.cell?_alloc_lt _ _ ⟨wA.heap.size, 0, none⟩ (by simp; omega), World.cell?_alloc_lt _ _ ⟨wA.heap.size, 0, none⟩ x3]; exact x1), (hgrow.cell_far ⟨wA.heap.size, 1, none⟩ hsz hne).trans (by rw [World.cell?_alloc_lt _ _ ⟨wA.heap.size, 1, none⟩ (by simp; omega), World.cell?_alloc_lt _ _ ⟨wA.heap.size, 1, none⟩ x3]; exact x2), Nat.lt_of_lt_of_le hsz hgrow.size⟩)
          have HNB3 := Lib.hid (show ∀ k, Value.ownBlock (.slice (some ⟨g3, 0, none⟩) (r + 1) c3) = some k → k ≠ wA.heap.size from fun k hk => by
            have hk2 : k = g3 := by simpa [Value.ownBlock] using hk.symm
            subst hk2
            rcases hor with h | h
            · exact HNB.out _ h
            · rw [h]; simp; omega)
          have HW3 := Lib.hid ((HW2.out.alloc HW2.out.size (.cells #[.int .i64 (max X A), .int .i64 (min Y C)] 55)).grown hgrow (by have := HW2.out.size; simp at *; omega) (fun k hk => (hlt8 k hk).1))
          have HO3 := Lib.hid (show w3.ownsRow w0.heap.size 55 2 (.slice (some ⟨g3, 0, none⟩) (r + 1) c3) (r + 1) (ivV (crossK la lb i (j + 1))) from by rw [HST.out, ivV_append]; exact hown)
          clear hown hgrow hlt8 hor hgl hsz hne x1 x2 x3
          go_wp2_with fail
          go_roundw
          case rel => exact ⟨_, r + 1, c3, j + 1, rfl, by go_num, by omega, hbd, Lib.hid (by rw [HPR.out]; omega), HO3, HW3, HBX3, HNB3⟩
          case measure => simp [intOf]; omega
        · obtain rfl : m = j := by omega
          go_wp2_with fail
          go_roundw
          case rel => exact ⟨oh, r, ch, i + 1, rfl, by go_num, by omega, hr, Lib.hid (by rw [HPR.out, Nat.add_mul]; omega), Lib.hid (by rw [← crossK_full HIL.out, HM1.out]; exact HO.out), HW⟩
          case measure => simp [intOf]; omega
    · obtain rfl : n = i := by omega
      have htk : la.take n = la := List.take_of_length_le (by rw [HM0.out]; exact Nat.le_refl _)
      have hlen : (crossM la lb).length = p := by rw [crossM_len, HM0.out, HM1.out, HP.out]
      have hown : wA.ownsRow w0.heap.size 55 2 (.slice og p cg) p (ivV (crossM la lb)) := by have := HO.out; rw [htk] at this; exact this
      have hiv : IvS wA (.slice og p cg) (crossM la lb) := IvS.own (b := w0.heap.size) (by rw [hlen]; exact hown)
      obtain ⟨_, _, he, -, hRV⟩ := hiv
      rw [hlen] at he
      simp only [Value.slice.injEq, true_and] at he
      obtain ⟨rfl, rfl⟩ := he
      have hcon := of_any og (crossM la lb) p cg wA hlen hp hRV
      have HW3 := HW
      clear hown hlen hRV htk
      go_wp2_with fail
      refine hcon.mono ?_
      clear hcon
      rintro e w4 ⟨v4, o, rfl, hof, hv4, hnew, hb4⟩
      have HOR := Lib.hid (hof.and HN0.out)
      have HV4 := Lib.hid hv4
      have HNW := Lib.hid hnew
      have HB4 := Lib.hid (HW3.out.trans (hb4.mono HW3.out.size))
      have hc1 := (HB4.out.cell (p := ⟨w.heap.size + 2, 0, none⟩) (by rw [HC0.out.2.2.1]; show w.heap.size + 2 < _; omega)).trans HC0.out.1
      have hc2 := (HB4.out.frozen (p := ⟨w.heap.size + 2, 0, none⟩) (by rw [HC0.out.2.2.1]; show w.heap.size + 2 < _; omega)).trans HC0.out.2.1
      have hc3 : w.heap.size + 2 < w4.heap.size := by have := HB4.out.size; rw [HC0.out.2.2.1] at this; omega
      obtain ⟨ob4, cap4, rfl, -, -⟩ := id hv4
      obtain ⟨n4, hn4⟩ : ∃ n, o.length = n := ⟨_, rfl⟩
      rw [hn4] at HV4 HNW
      rw [hn4]
      clear hof hv4 hnew hb4 hn4
      go_wp2_with fail
      have z0 : (w4.setCell ⟨w.heap.size + 2, 0, none⟩ (.slice ob4 n4 cap4)).cell? ⟨w.heap.size + 2, 0, none⟩ = some (.slice ob4 n4 cap4) := World.cell?_setCell_same _ _ _ hc1
      refine bodyPost_ret (v := .agg #[.slice ob4 n4 cap4]) (by simp [results, Tryd.results25, go_sem, z0]) rfl ⟨.slice ob4 n4 cap4, o, rfl, HOR.out, ?_, ?_, ?_⟩
      · refine HV4.out.far (fun a c nn h e => ?_) _ _
        have h1 := HNW.out a nn c h
        have h2 := HW3.out.size
        rw [HC0.out.2.2.1] at h2
        omega
      · intro a nn c h
        have h1 := HNW.out a nn c h
        have h2 := HW3.out.size
        rw [HC0.out.2.2.1] at h2
        omega
      · exact (HB0.out.trans (HB4.out.mono (by rw [HC0.out.2.2.1]; omega))).setCell (p := ⟨w.heap.size + 2, 0, none⟩) (by show w.heap.size ≤ w.heap.size + 2; omega) _
end Go.Proofs.YtbmndenopgkpoaaDoor
