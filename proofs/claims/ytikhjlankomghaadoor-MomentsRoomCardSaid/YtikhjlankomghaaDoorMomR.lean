/- The law MomentsRoom: the walk. -/
import Derived.Test.YtikhjlankomghaaDoorMomQ
namespace Go.Proofs.YtikhjlankomghaaDoor
open Go.RowKit
/-- A box of one number. -/
def B1 (w : World) (A : Nat) (v : Value) : Prop := A < w.heap.size ∧ w.cell? ⟨A, 0, none⟩ = some v
theorem B1.call {w w' : World} {A : Nat} {v : Value} (h : B1 w A v) (hb : Below w.heap.size w w') : B1 w' A v := ⟨Nat.lt_of_lt_of_le h.1 hb.size, (hb.cell (p := ⟨A, 0, none⟩) h.1).trans h.2⟩
set_option maxRecDepth 100000 in
set_option maxHeartbeats 8000000 in
theorem momentsRoom_walk (v0 : Value) (l0 : List Iv) (t n : Int) (w : World) (hT : ErrT w) (h0 : IvS w v0 l0) :
    Calls Tryd.prog 3 #[v0, .int .i64 t, .int .i64 n] w fun e w' => e = .returned (.bool true) ∧ Below w.heap.size w w' := by
  have H0 := Lib.hid h0
  have HT := Lib.hid hT
  obtain ⟨ob, cap, rfl, -, -⟩ := h0
  obtain ⟨m, hm⟩ : ∃ n, l0.length = n := ⟨_, rfl⟩
  have HM := Lib.hid hm
  rw [hm] at H0 ⊢
  clear hm hT
  have HB0 := Lib.hid (Below.alloc (Below.alloc (Below.refl w.heap.size w) (Nat.le_refl _) (.cells #[.int .i64 t] 3)) (by simp) (.cells #[.int .i64 n] 3))
  by_cases hbig : 512 < m
  · have hb : decide ((512 : Int) < (m : Int)) = true := decide_eq_true (by omega)
    go_enter Tryd.func3, Tryd.ntmps3
    go_wp2_with fail
    go_ret
    exact ⟨rfl, HB0.out⟩
  have hb : decide ((512 : Int) < (m : Int)) = false := decide_eq_false (by omega)
  go_enter Tryd.func3, Tryd.ntmps3
  go_wp2_with fail
  obtain ⟨w0, hw0⟩ : ∃ x, (w.alloc (.cells #[.int .i64 t] 3)).alloc (.cells #[.int .i64 n] 3) = x := ⟨_, rfl⟩
  have G4 := Lib.hid (show B1 w0 w.heap.size (.int .i64 t) by rw [← hw0]; exact ⟨by simp; omega, by simp [go_sem]⟩)
  have G5 := Lib.hid (show B1 w0 (w.heap.size + 1) (.int .i64 n) ∧ w0.frozen? ⟨w.heap.size + 1, 0, none⟩ = false by rw [← hw0]; exact ⟨⟨by simp, by simp [go_sem]⟩, by simp [go_sem]⟩)
  have HSZ := Lib.hid (show w0.heap.size = w.heap.size + 2 by rw [← hw0]; simp)
  rw [hw0] at HB0 ⊢
  clear hw0
  refine (ptimes_any _ l0 _ (H0.out.call HB0.out) (by rw [HM.out]; omega)).mono ?_
  rintro e w1 ⟨v1, l, rfl, hof, hv1, hnw, hb1⟩
  have hsz0 : w0.heap.size = w.heap.size + 2 := HSZ.out
  have HV1 := Lib.hid hv1
  have HN := Lib.hid hof.norm
  have hlen : l.length ≤ 512 := Nat.le_trans hof.len (by rw [HM.out]; omega)
  have HLEN := Lib.hid hlen
  have G41 := Lib.hid (G4.out.call hb1)
  have G51 := Lib.hid (G5.out.1.call hb1)
  have G5f := Lib.hid ((hb1.frozen (p := ⟨w.heap.size + 1, 0, none⟩) G5.out.1.1).trans G5.out.2)
  have HB1 := Lib.hid (thenB HB0.out hb1)
  obtain ⟨ob1, cap1, rfl, -, -⟩ := id hv1
  obtain ⟨p, hp⟩ : ∃ n, l.length = n := ⟨_, rfl⟩
  rw [hp] at HV1 hnw hlen ⊢
  have HNW := Lib.hid hnw
  have HP := Lib.hid hp
  clear hof hv1 hb1 hp hnw hsz0
  obtain ⟨q1, q2⟩ := G41.out
  obtain ⟨q3, q4⟩ := G51.out
  have q5 := G5f.out
  have hmod : 0 ≤ n % 1000 ∧ n % 1000 < 1000 := ⟨Int.emod_nonneg n (by decide), Int.emod_lt_of_pos n (by decide)⟩
  obtain ⟨R, hR⟩ : ∃ R, n % 1000 = R := ⟨_, rfl⟩
  have hpk := pick1000 n
  rw [hR] at hmod hpk
  have HPK := Lib.hid hpk
  clear hR hpk
  go_wp2_with fail
  refine (HPK.out _).mono ?_
  rintro e w' ⟨rfl, hw'⟩
  subst hw'
  have HW2 := Lib.hid (show Below w.heap.size w ((w1.setCell ⟨w.heap.size + 1, 0, none⟩ (.int .i64 (1 + R))).alloc (.cells #[.slice ob1 p cap1] 26)) from (HB1.out.setCell (p := ⟨w.heap.size + 1, 0, none⟩) (by show w.heap.size ≤ w.heap.size + 1; omega) _).alloc (by have := HB1.out.size; simp [World.setCell]; omega) _)
  have HVW := Lib.hid (show IvS ((w1.setCell ⟨w.heap.size + 1, 0, none⟩ (.int .i64 (1 + R))).alloc (.cells #[.slice ob1 p cap1] 26)) (.slice ob1 p cap1) l from (HV1.out.far (fun a c nn h e => by have h1 := HNW.out a nn c h; rw [HSZ.out] at h1; omega) _ _).allocs _)
  have GA := Lib.hid (show B1 ((w1.setCell ⟨w.heap.size + 1, 0, none⟩ (.int .i64 (1 + R))).alloc (.cells #[.slice ob1 p cap1] 26)) w.heap.size (.int .i64 t) from ⟨by simp [World.setCell]; omega, by rw [World.cell?_alloc_lt _ _ ⟨w.heap.size, 0, none⟩ (by simpa [World.setCell] using q1), World.cell?_setCell_other _ _ _ _ (by intro e; have := congrArg Addr.block e; simp at this)]; exact q2⟩)
  have GB := Lib.hid (show B1 ((w1.setCell ⟨w.heap.size + 1, 0, none⟩ (.int .i64 (1 + R))).alloc (.cells #[.slice ob1 p cap1] 26)) (w.heap.size + 1) (.int .i64 (1 + R)) from ⟨by simp [World.setCell]; omega, by rw [World.cell?_alloc_lt _ _ ⟨w.heap.size + 1, 0, none⟩ (by simpa [World.setCell] using q3)]; exact World.cell?_setCell_same _ _ _ q4⟩)
  have GC := Lib.hid (show B1 ((w1.setCell ⟨w.heap.size + 1, 0, none⟩ (.int .i64 (1 + R))).alloc (.cells #[.slice ob1 p cap1] 26)) w1.heap.size (.slice ob1 p cap1) from ⟨by simp [World.setCell], by rw [World.cell?_alloc_at _ _ _ _ (by simp [World.setCell])]; rfl⟩)
  go_wp2_with fail
  obtain ⟨w2, hw2⟩ : ∃ x, (w1.setCell ⟨w.heap.size + 1, 0, none⟩ (.int .i64 (1 + R))).alloc (.cells #[.slice ob1 p cap1] 26) = x := ⟨_, rfl⟩
  rw [hw2] at HW2 HVW GA GB GC ⊢
  have HT2 := Lib.hid (HT.out.call HW2.out)
  clear hw2 G41 G51 G5f HV1 HB1 q1 q2 q3 q4 q5
  obtain ⟨nn, hnn⟩ : ∃ z, 1 + R = z := ⟨_, rfl⟩
  have hn1 : 1 ≤ nn ∧ nn ≤ 1000 := by omega
  rw [hnn] at GB ⊢
  clear hnn hmod HPK
  refine (proom_any _ l t nn w2 HT2.out HVW.out (by have := HLEN.out; omega) HN.out hn1.1).mono ?_
  rintro e w3 ⟨x, k, rfl, hroom, hb3⟩
  have HRM := Lib.hid hroom
  have GA := Lib.hid (GA.out.call hb3)
  have GB := Lib.hid (GB.out.call hb3)
  have GC := Lib.hid (GC.out.call hb3)
  have HV3 := Lib.hid (HVW.out.call hb3)
  have HB3 := Lib.hid (thenB HW2.out hb3)
  have hk : k = 12 ∨ k = 0 := by
    rcases hroom with ⟨_, h, _⟩ | ⟨h, _⟩
    · exact .inl h
    · exact .inr h
  clear hroom hb3 HVW
  obtain ⟨q1, q2⟩ := GC.out
  have hfin : ∀ fd : Bool, (fd = true ↔ ∃ j, j < l.length ∧ okR (l.getD j iv0) t nn ∧ frR (l.getD j iv0) t = x) → (fd == (k == 0)) = true := fun fd hfd => by
    rcases HRM.out with ⟨_, h2, h3⟩ | ⟨h1, j, h2, h3, h4, _⟩
    · have e1 : fd = false := by
        cases fd with
        | false => rfl
        | true =>
          obtain ⟨j, h4, h5, _⟩ := hfd.1 rfl
          exact absurd h5 (h3 j h4)
      rw [e1, h2]; rfl
    · have e1 : fd = true := hfd.2 ⟨j, h2, h3, h4.symm⟩
      rw [e1, h1]; rfl
  have HFIN := Lib.hid hfin
  clear hfin
  rcases hk with rfl | rfl
  · go_wp2_with fail
    refine (pspans_any _ l w3 HV3.out (by have := HLEN.out; omega)).mono ?_
    rintro e w4 ⟨v4, rfl, hv4, hb4⟩
    have GA4 := Lib.hid (GA.out.call hb4)
    have GB4 := Lib.hid (GB.out.call hb4)
    have HB4 := Lib.hid (thenB HB3.out hb4)
    obtain ⟨ob4, cap4, rfl, -, hR4⟩ := hv4
    have HR4 := Lib.hid hR4
    rw [HP.out]
    clear hb4 hR4 q1 q2
    go_wp2_with fail
    go_loopw [12, 13] (fun f c wr => ∃ (fd : Bool) (i : Nat), f = .bool fd ∧ c = .int .i64 (i : Int) ∧ i ≤ p ∧ Hid (fd = true ↔ ∃ j, j < i ∧ okR (l.getD j iv0) t nn ∧ frR (l.getD j iv0) t = x) ∧ Hid (Below w4.heap.size w4 wr)) (fun _ c _ => p - (intOf c).toNat)
    case atStart => exact ⟨false, 0, rfl, rfl, by omega, Lib.hid ⟨fun h => Bool.noConfusion h, fun ⟨j, h, _⟩ => absurd h (Nat.not_lt_zero j)⟩, Lib.hid (Below.refl _ _)⟩
    case round =>
      obtain ⟨fd, i, rfl, rfl, hi, HFD, HB⟩ := hrel
      obtain ⟨wA, rfl⟩ : ∃ wo : World, wo = wr := ⟨_, rfl⟩
      by_cases hip : i < p
      · have hil : i < l.length := by rw [HP.out]; exact hip
        have HRA := Lib.hid (HR4.out.call HB.out)
        obtain ⟨a, rfl⟩ := HRA.out.1 (by omega)
        obtain ⟨c0, c1⟩ := HRA.out.at hil
        have hok := HN.out.ok hil
        have hls := fun h => HRM.out.least HN.out hil h
        obtain ⟨pr, hpr⟩ : ∃ pr, l.getD i iv0 = pr := ⟨_, rfl⟩
        have HPR := Lib.hid hpr
        rw [hpr] at c0 c1 hok hls
        obtain ⟨X, Y⟩ := pr
        have hcon := sooner_any X Y t nn w.heap.size (w.heap.size + 1) wA hok (GA4.out.call HB.out).2 (GB4.out.call HB.out).2
        have hab := World.block_lt_of_cell? _ _ c0
        have k1 : (0 : Int) ≤ (i : Int) := by omega
        have k2 : (i : Int) < (p : Int) := by omega
        have HLS := Lib.hid hls
        obtain ⟨F, hF⟩ : ∃ F, frR (X, Y) t = F := ⟨_, rfl⟩
        rw [hF] at hcon HLS
        have HF := Lib.hid hF
        have HNX := Lib.hid (show ∀ fd2 : Bool, (fd2 = true ↔ fd = true ∨ (okR (X, Y) t nn ∧ F = x)) → (fd2 = true ↔ ∃ j, j < i + 1 ∧ okR (l.getD j iv0) t nn ∧ frR (l.getD j iv0) t = x) from fun fd2 h => by
          rw [h, HFD.out]
          constructor
          · rintro (⟨j, h1, h2⟩ | ⟨h1, h2⟩)
            · exact ⟨j, by omega, h2⟩
            · exact ⟨i, by omega, by rw [HPR.out]; exact ⟨h1, by rw [HF.out]; exact h2⟩⟩
          · rintro ⟨j, h1, h2⟩
            by_cases e : j = i
            · subst e; rw [HPR.out] at h2; exact .inr ⟨h2.1, by rw [← HF.out]; exact h2.2⟩
            · exact .inl ⟨j, by omega, h2⟩)
        clear hil hpr hls hok hF
        by_cases hk : okR (X, Y) t nn
        · have hd : decide (okR (X, Y) t nn) = true := decide_eq_true hk
          rw [hd] at hcon
          have HK := Lib.hid hk
          obtain ⟨hx0, hx1⟩ := HLS.out hk
          exact absurd hx0 (by decide)
        · have hd : decide (okR (X, Y) t nn) = false := decide_eq_false hk
          rw [hd] at hcon
          have HN2 := Lib.hid (HNX.out fd ⟨fun h => .inl h, fun h => h.elim id fun h => absurd h.1 hk⟩)
          clear hk hd
          go_wp2_with fail
          refine hcon.mono ?_
          clear hcon
          rintro e w5 ⟨rfl, hb5⟩
          have HB5 := Lib.hid (thenB HB.out hb5)
          clear hb5 c0 c1 hab
          cases fd with
          | true =>
            go_wp2_with fail
            go_roundw
            case rel => exact ⟨true, i + 1, rfl, by go_num, by omega, Lib.hid (by have := HN2.out; simpa using this), HB5⟩
            case measure => simp [intOf]; omega
          | false =>
            go_wp2_with fail
            go_roundw
            case rel => exact ⟨false, i + 1, rfl, by go_num, by omega, Lib.hid (by have := HN2.out; simpa using this), HB5⟩
            case measure => simp [intOf]; omega
      · obtain rfl : p = i := by omega
        have hf := HFIN.out fd (by have := HFD.out; rw [← HP.out] at this; exact this)
        cases fd with
        | true =>
          first
            | exact absurd hf (by decide)
            | (go_wp2_with fail; go_ret; exact ⟨rfl, thenB HB4.out HB.out⟩)
        | false =>
          first
            | exact absurd hf (by decide)
            | (go_wp2_with fail; go_ret; exact ⟨rfl, thenB HB4.out HB.out⟩)
  · go_wp2_with fail
    refine (pspans_any _ l w3 HV3.out (by have := HLEN.out; omega)).mono ?_
    rintro e w4 ⟨v4, rfl, hv4, hb4⟩
    have GA4 := Lib.hid (GA.out.call hb4)
    have GB4 := Lib.hid (GB.out.call hb4)
    have HB4 := Lib.hid (thenB HB3.out hb4)
    obtain ⟨ob4, cap4, rfl, -, hR4⟩ := hv4
    have HR4 := Lib.hid hR4
    rw [HP.out]
    clear hb4 hR4 q1 q2
    go_wp2_with fail
    go_loopw [12, 13] (fun f c wr => ∃ (fd : Bool) (i : Nat), f = .bool fd ∧ c = .int .i64 (i : Int) ∧ i ≤ p ∧ Hid (fd = true ↔ ∃ j, j < i ∧ okR (l.getD j iv0) t nn ∧ frR (l.getD j iv0) t = x) ∧ Hid (Below w4.heap.size w4 wr)) (fun _ c _ => p - (intOf c).toNat)
    case atStart => exact ⟨false, 0, rfl, rfl, by omega, Lib.hid ⟨fun h => Bool.noConfusion h, fun ⟨j, h, _⟩ => absurd h (Nat.not_lt_zero j)⟩, Lib.hid (Below.refl _ _)⟩
    case round =>
      obtain ⟨fd, i, rfl, rfl, hi, HFD, HB⟩ := hrel
      obtain ⟨wA, rfl⟩ : ∃ wo : World, wo = wr := ⟨_, rfl⟩
      by_cases hip : i < p
      · have hil : i < l.length := by rw [HP.out]; exact hip
        have HRA := Lib.hid (HR4.out.call HB.out)
        obtain ⟨a, rfl⟩ := HRA.out.1 (by omega)
        obtain ⟨c0, c1⟩ := HRA.out.at hil
        have hok := HN.out.ok hil
        have hls := fun h => HRM.out.least HN.out hil h
        obtain ⟨pr, hpr⟩ : ∃ pr, l.getD i iv0 = pr := ⟨_, rfl⟩
        have HPR := Lib.hid hpr
        rw [hpr] at c0 c1 hok hls
        obtain ⟨X, Y⟩ := pr
        have hcon := sooner_any X Y t nn w.heap.size (w.heap.size + 1) wA hok (GA4.out.call HB.out).2 (GB4.out.call HB.out).2
        have hab := World.block_lt_of_cell? _ _ c0
        have k1 : (0 : Int) ≤ (i : Int) := by omega
        have k2 : (i : Int) < (p : Int) := by omega
        have HLS := Lib.hid hls
        obtain ⟨F, hF⟩ : ∃ F, frR (X, Y) t = F := ⟨_, rfl⟩
        rw [hF] at hcon HLS
        have HF := Lib.hid hF
        have HNX := Lib.hid (show ∀ fd2 : Bool, (fd2 = true ↔ fd = true ∨ (okR (X, Y) t nn ∧ F = x)) → (fd2 = true ↔ ∃ j, j < i + 1 ∧ okR (l.getD j iv0) t nn ∧ frR (l.getD j iv0) t = x) from fun fd2 h => by
          rw [h, HFD.out]
          constructor
          · rintro (⟨j, h1, h2⟩ | ⟨h1, h2⟩)
            · exact ⟨j, by omega, h2⟩
            · exact ⟨i, by omega, by rw [HPR.out]; exact ⟨h1, by rw [HF.out]; exact h2⟩⟩
          · rintro ⟨j, h1, h2⟩
            by_cases e : j = i
            · subst e; rw [HPR.out] at h2; exact .inr ⟨h2.1, by rw [← HF.out]; exact h2.2⟩
            · exact .inl ⟨j, by omega, h2⟩)
        clear hil hpr hls hok hF
        by_cases hk : okR (X, Y) t nn
        · have hd : decide (okR (X, Y) t nn) = true := decide_eq_true hk
          rw [hd] at hcon
          have HK := Lib.hid hk
          obtain ⟨hx0, hx1⟩ := HLS.out hk
          have d1 : decide (F < x) = false := decide_eq_false (by omega)
          clear hk hd hx0 hx1
          go_wp2_with fail
          refine hcon.mono ?_
          clear hcon
          rintro e w5 ⟨rfl, hb5⟩
          have HB5 := Lib.hid (thenB HB.out hb5)
          clear hb5 c0 c1 hab
          by_cases hFx : F = x
          · have d2 : (F == x) = true := by simpa using hFx
            have HN2 := Lib.hid (HNX.out true ⟨fun _ => .inr ⟨HK.out, hFx⟩, fun _ => rfl⟩)
            clear hFx
            cases fd with
            | true =>
              go_wp2_with fail
              go_roundw
              case rel => exact ⟨true, i + 1, rfl, by go_num, by omega, Lib.hid (by have := HN2.out; simpa using this), HB5⟩
              case measure => simp [intOf]; omega
            | false =>
              go_wp2_with fail
              go_roundw
              case rel => exact ⟨true, i + 1, rfl, by go_num, by omega, Lib.hid (by have := HN2.out; simpa using this), HB5⟩
              case measure => simp [intOf]; omega
          · have d2 : (F == x) = false := by simpa using hFx
            have HN2 := Lib.hid (HNX.out fd ⟨fun h => .inl h, fun h => h.elim id fun h => absurd h.2 hFx⟩)
            clear hFx
            cases fd with
            | true =>
              go_wp2_with fail
              go_roundw
              case rel => exact ⟨true, i + 1, rfl, by go_num, by omega, Lib.hid (by have := HN2.out; simpa using this), HB5⟩
              case measure => simp [intOf]; omega
            | false =>
              go_wp2_with fail
              go_roundw
              case rel => exact ⟨false, i + 1, rfl, by go_num, by omega, Lib.hid (by have := HN2.out; simpa using this), HB5⟩
              case measure => simp [intOf]; omega
        · have hd : decide (okR (X, Y) t nn) = false := decide_eq_false hk
          rw [hd] at hcon
          have HN2 := Lib.hid (HNX.out fd ⟨fun h => .inl h, fun h => h.elim id fun h => absurd h.1 hk⟩)
          clear hk hd
          go_wp2_with fail
          refine hcon.mono ?_
          clear hcon
          rintro e w5 ⟨rfl, hb5⟩
          have HB5 := Lib.hid (thenB HB.out hb5)
          clear hb5 c0 c1 hab
          cases fd with
          | true =>
            go_wp2_with fail
            go_roundw
            case rel => exact ⟨true, i + 1, rfl, by go_num, by omega, Lib.hid (by have := HN2.out; simpa using this), HB5⟩
            case measure => simp [intOf]; omega
          | false =>
            go_wp2_with fail
            go_roundw
            case rel => exact ⟨false, i + 1, rfl, by go_num, by omega, Lib.hid (by have := HN2.out; simpa using this), HB5⟩
            case measure => simp [intOf]; omega
      · obtain rfl : p = i := by omega
        have hf := HFIN.out fd (by have := HFD.out; rw [← HP.out] at this; exact this)
        cases fd with
        | true =>
          first
            | exact absurd hf (by decide)
            | (go_wp2_with fail; go_ret; exact ⟨rfl, thenB HB4.out HB.out⟩)
        | false =>
          first
            | exact absurd hf (by decide)
            | (go_wp2_with fail; go_ret; exact ⟨rfl, thenB HB4.out HB.out⟩)
end Go.Proofs.YtikhjlankomghaaDoor
