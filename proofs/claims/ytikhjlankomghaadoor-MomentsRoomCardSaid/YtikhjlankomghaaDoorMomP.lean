/- Room. -/
import Derived.Test.YtikhjlankomghaaDoorMomL
namespace Go.Proofs.YtikhjlankomghaaDoor
open Go.RowKit
def frR (p : Iv) (t : Int) : Int := max p.1 t
def okR (p : Iv) (t n : Int) : Prop := frR p t < p.2 ∧ n ≤ p.2 - frR p t
instance (p : Iv) (t n : Int) : Decidable (okR p t n) := by unfold okR; infer_instance
theorem okR_clip {p : Iv} (h : Okv p) {t n : Int} (hn : 1 ≤ n) : n ≤ p.2 - max p.1 (clipM t) ↔ okR p t n := by
  obtain ⟨h1, h2, h3⟩ := h
  unfold okR frR clipM loM hiM at *
  omega
theorem frR_clip {p : Iv} (h : Okv p) {t n : Int} (_hn : 1 ≤ n) (hk : okR p t n) : max p.1 (clipM t) = frR p t := by
  obtain ⟨h1, h2, h3⟩ := h
  unfold okR at hk
  unfold frR clipM loM hiM at *
  omega
/-- The first room. -/
def RoomI (l : List Iv) (t n : Int) (x e : Int) : Prop := (x = 0 ∧ e = 12 ∧ ∀ k, k < l.length → ¬ okR (l.getD k iv0) t n) ∨ (e = 0 ∧ ∃ k, k < l.length ∧ okR (l.getD k iv0) t n ∧ x = frR (l.getD k iv0) t ∧ ∀ j, j < k → ¬ okR (l.getD j iv0) t n)
theorem Norm.ok {l : List Iv} (h : Norm l) {k : Nat} (hk : k < l.length) : Okv (l.getD k iv0) := by
  have e : l.getD k iv0 = l[k] := by simp [List.getD, hk]
  rw [e]; exact h.1 _ (List.getElem_mem hk)
theorem Norm.up {l : List Iv} (h : Norm l) {j k : Nat} (hjk : j < k) (hk : k < l.length) : (l.getD j iv0).2 < (l.getD k iv0).1 := by
  have e1 : l.getD k iv0 = l[k] := by simp [List.getD, hk]
  have e2 : l.getD j iv0 = l[j] := by simp [List.getD, show j < l.length by omega]
  rw [e1, e2]
  exact List.pairwise_iff_getElem.1 h.2 j k (by omega) hk hjk
theorem RoomI.least {l : List Iv} {t n x e : Int} (h : RoomI l t n x e) (hn : Norm l) {k : Nat} (hk : k < l.length) (ho : okR (l.getD k iv0) t n) : e = 0 ∧ x ≤ frR (l.getD k iv0) t := by
  rcases h with ⟨_, _, h⟩ | ⟨h1, j, h2, h3, h4, h5⟩
  · exact absurd ho (h k hk)
  · refine ⟨h1, ?_⟩
    rw [h4]
    rcases Nat.lt_trichotomy j k with g | g | g
    · have g1 := hn.up g hk
      have g2 := (hn.ok (show j < l.length by omega)).2.1
      unfold frR; omega
    · subst g; exact Int.le_refl _
    · exact absurd ho (h5 k g)
set_option maxRecDepth 100000 in
set_option maxHeartbeats 8000000 in
theorem room_any (v0 : Value) (l : List Iv) (t n : Int) (w : World) (h0 : IvS w v0 l) (hl : l.length ≤ 1000000000) (hn : Norm l) (hn1 : 1 ≤ n) :
    Calls Tryd.prog 34 #[.agg #[v0], .int .i64 t, .int .i64 n] w fun e w' => ∃ x k, e = .returned (.tuple #[.int .i64 x, errV k]) ∧ RoomI l t n x k ∧ Below w.heap.size w w' := by
  obtain ⟨ob, cap, rfl, -, hR⟩ := h0
  obtain ⟨m, hm⟩ : ∃ n, l.length = n := ⟨_, rfl⟩
  have HM := Lib.hid hm
  have HR := Lib.hid hR
  have HN := Lib.hid hn
  have d0 : decide (n < 1) = false := decide_eq_false (by omega)
  rw [hm] at hl ⊢
  clear hR hm hn
  have HB0 := Lib.hid (Below.alloc (Below.refl w.heap.size w) (Nat.le_refl _) (.cells #[.slice ob m cap] 24))
  go_enter Tryd.func34, Tryd.ntmps34
  go_wp2_with fail
  go_loopw [17] (fun c wr => ∃ k : Nat, c = .int .i64 (k : Int) ∧ k ≤ m ∧ Hid (∀ j, j < k → ¬ okR (l.getD j iv0) t n) ∧ Hid (Below w.heap.size w wr)) (fun c _ => m - (intOf c).toNat)
  case atStart => exact ⟨0, rfl, by omega, Lib.hid fun j hj => absurd hj (Nat.not_lt_zero j), HB0⟩
  case round =>
    clear HB0
    obtain ⟨k, rfl, hk, HK, HB⟩ := hrel
    obtain ⟨wA, rfl⟩ : ∃ wo : World, wo = wr := ⟨_, rfl⟩
    by_cases hkn : k < m
    · have hkl : k < l.length := by rw [HM.out]; exact hkn
      have HRA := Lib.hid (HR.out.call HB.out)
      obtain ⟨a, rfl⟩ := HRA.out.1 (by omega)
      obtain ⟨c0, c1⟩ := HRA.out.at hkl
      have hok := HN.out.ok hkl
      have hq := okR_clip (t := t) hok hn1
      have hf := fun h => frR_clip (t := t) hok hn1 h
      have hcl := clipM_in (n := t)
      obtain ⟨p, hp⟩ : ∃ p, l.getD k iv0 = p := ⟨_, rfl⟩
      have HP := Lib.hid hp
      rw [hp] at c0 c1 hok hq hf
      obtain ⟨X, Y⟩ := p
      obtain ⟨y1, y2, y3⟩ := hok
      have HCL := Lib.hid (fun w' => clip_any t w')
      obtain ⟨C, hC⟩ : ∃ C, clipM t = C := ⟨_, rfl⟩
      rw [hC] at HCL hq hf hcl
      have HQ := Lib.hid hq
      have HF := Lib.hid hf
      have hab := World.block_lt_of_cell? _ _ c0
      have k1 : (0 : Int) ≤ (k : Int) := by omega
      have k2 : (k : Int) < (m : Int) := by omega
      have hXb : -1152921504606846976 ≤ X ∧ X ≤ 1152921504606846976 := by unfold loM hiM at *; simp only at *; omega
      have hYb : -1152921504606846976 ≤ Y ∧ Y ≤ 1152921504606846976 := by unfold loM hiM at *; simp only at *; omega
      have hCb : -1152921504606846976 ≤ C ∧ C ≤ 1152921504606846976 := by unfold loM hiM at *; omega
      have hMb : -1152921504606846976 ≤ max X C ∧ max X C ≤ 1152921504606846976 := by omega
      have HB1 := Lib.hid (HB.out.alloc HB.out.size (.cells #[.int .i64 X, .int .i64 Y] 35))
      clear hkl hp hq hf hcl hC y1 y2 y3
      go_upto_region 6 with fail
      go_cut [10] (fun s wx => s = .int .i64 (max X C) ∧ wx = (wA.alloc (.cells #[.int .i64 X, .int .i64 Y] 35)).drew)
      case first =>
        go_region_with (go_at_call 49; refine (HCL.out _).mono ?_; rintro e w' ⟨rfl, hw'⟩; subst hw')
        all_goals (go_wp2_with fail; go_meet; first | exact ⟨rfl, rfl⟩ | exact ⟨by congr 1; split <;> omega, rfl⟩)
      case rest =>
        obtain ⟨rfl, hcw⟩ := hcut
        subst hcw
        have HB2 := Lib.hid (below_drew HB1.out)
        obtain ⟨Mx, hMx⟩ : ∃ z, max X C = z := ⟨_, rfl⟩
        rw [hMx] at HQ HF hMb ⊢
        clear hMx
        by_cases hge : n ≤ Y - Mx
        · have d1 : decide (n ≤ Y - Mx) = true := decide_eq_true hge
          have HOK := Lib.hid (HQ.out.1 hge)
          clear hge
          go_wp2_with fail
          go_ret2
          refine ⟨Mx, 0, rfl, .inr ⟨rfl, k, by rw [HM.out]; exact hkn, by rw [HP.out]; exact HOK.out, by rw [HP.out]; exact HF.out HOK.out, HK.out⟩, HB2.out⟩
        · have d1 : decide (n ≤ Y - Mx) = false := decide_eq_false hge
          have HOK := Lib.hid (show ¬ okR (X, Y) t n from fun h => hge (HQ.out.2 h))
          clear hge
          go_wp2_with fail
          go_roundw
          case rel =>
            refine ⟨k + 1, by go_num, by omega, Lib.hid fun j hj => ?_, HB2⟩
            by_cases e : j = k
            · subst e; rw [HP.out]; exact HOK.out
            · exact HK.out j (by omega)
          case measure => simp [intOf]; omega
    · obtain rfl : m = k := by omega
      go_wp2_with fail
      go_ret2
      exact ⟨0, 12, rfl, .inl ⟨rfl, rfl, fun k hk => HK.out k (by rw [← HM.out]; exact hk)⟩, HB.out⟩
set_option maxHeartbeats 2000000 in
theorem proom_any (v0 : Value) (l : List Iv) (t n : Int) (w : World) (hT : ErrT w) (h0 : IvS w v0 l) (hl : l.length ≤ 1000000000) (hn : Norm l) (hn1 : 1 ≤ n) :
    Calls Tryd.prog 7 #[.agg #[v0], .int .i64 t, .int .i64 n] w fun e w' => ∃ x k, e = .returned (.tuple #[.int .i64 x, .int .i64 k]) ∧ RoomI l t n x k ∧ Below w.heap.size w w' := by
  have H0 := Lib.hid h0
  have HT := Lib.hid hT
  obtain ⟨ob, cap, rfl, -, -⟩ := h0
  obtain ⟨m, hm⟩ : ∃ n, l.length = n := ⟨_, rfl⟩
  rw [hm] at H0 ⊢
  have HL := Lib.hid hl
  have HN := Lib.hid hn
  clear hm hl hn hT
  have HB0 := Lib.hid (Below.alloc (Below.refl w.heap.size w) (Nat.le_refl _) (.cells #[.slice ob m cap] 26))
  go_enter Tryd.func7, Tryd.ntmps7
  go_wp2_with fail
  refine (room_any _ l t n _ (H0.out.call HB0.out) HL.out HN.out hn1).mono ?_
  rintro e w2 ⟨x, k, rfl, hr, hb⟩
  have HRR := Lib.hid hr
  have HB2 := Lib.hid (thenB HB0.out hb)
  have HT2 := Lib.hid (HT.out.call HB2.out)
  clear hr hb
  go_wp2_with fail
  refine (tell_any _ _ HT2.out).mono ?_; rintro e w3 ⟨rfl, hb3⟩
  have HB3 := Lib.hid (thenB HB2.out hb3); clear hb3
  go_wp2_with fail
  go_ret2
  exact ⟨x, k, rfl, HRR.out, HB3.out⟩
end Go.Proofs.YtikhjlankomghaaDoor
