/- The law BusyBest: its closure, which counts those who cannot. -/
import Derived.Test.YtbmndenopgkpoaaDoorBsyG
import Derived.Test.YtbmndenopgkpoaaDoorBsyH
import Derived.Test.YtbmndenopgkpoaaDoorMomL
import Derived.Test.YtbmndenopgkpoaaDoorMomK
namespace Go.Proofs.YtbmndenopgkpoaaDoor
open Go.RowKit Wrk Go.Shelf
theorem and_can2 {L o q : List Iv} {a b : Int} (hL : Norm L) (hq : OfM [(a, b)] q) (ho : AndM L q o) (hab : a < b) : canB L a b = decide (o.length = 0) := by
  refine canB_empty hL ho.1 hab fun x => ?_
  rw [ho.2.1, hq.inl, inL_one]
  exact ⟨fun ⟨g1, _, _, g2⟩ => ⟨g1, g2⟩, fun ⟨g1, g2⟩ => ⟨g1, (hL.range g1).1, (hL.range g1).2, g2⟩⟩
/-- What And of a set and one time answers. -/
def FreR (L : List Iv) (a b : Int) (o : List Iv) : Prop := canB L a b = decide (o.length = 0) ∧ o.length ≤ L.length
theorem FreR.of {L o q : List Iv} {a b : Int} (hL : Norm L) (hq : OfM [(a, b)] q) (ho : AndM L q o) (hab : a < b) : FreR L a b o :=
  ⟨and_can2 hL hq ho hab, Nat.le_trans ho.2.2 (by have := hq.len; simp at this; calc L.length * q.length ≤ L.length * 1 := Nat.mul_le_mul_left _ this
    _ = L.length := Nat.mul_one _)⟩
/-- One time in a fresh place. -/
theorem IvS.oneN (w : World) (a b : Int) : IvS (w.alloc (.cells #[.int .i64 a, .int .i64 b] 55)) (.slice (some ⟨w.heap.size, 0, none⟩) 1 1) [(a, b)] := by
  refine IvS.own (b := 0) (l := [(a, b)]) ?_
  exact ⟨rfl, .inr ⟨w.heap.size, 1, #[.int .i64 a, .int .i64 b], rfl, Nat.zero_le _, heap_alloc_new w _, Nat.le_refl _, by decide, rfl, rfl⟩⟩
/-- A box that holds the answer. -/
def FreP (L : List Iv) (a b : Int) (B : Nat) (w0 : World) (q : Value) (wx : World) : Prop := ∃ z v o, q = .pointer (some ⟨z, 0, none⟩) ∧ wx.cell? ⟨z, 0, none⟩ = some v ∧ IvS wx v o ∧ FreR L a b o ∧ Below B w0 wx
set_option maxRecDepth 100000 in
set_option maxHeartbeats 16000000 in
theorem missing_any (zL zW : Nat) (P : List (List Iv)) (v9 vs : Value) (S : List Int) (ln a : Int) (w : World) (hL : w.cell? ⟨zL, 0, none⟩ = some v9) (hW : w.cell? ⟨zW, 0, none⟩ = some (.int .i64 ln)) (hP : SetsS w v9 P) (hs : IntC w vs S)
    (lP : ∀ l, l ∈ P → Norm l ∧ l.length ≤ 10000) (nS : S.length ≤ 10000000) (hwho : ∀ x, x ∈ S → 0 ≤ x ∧ x < P.length) (a1 : -400000000000 ≤ a) (a2 : a ≤ 400000000000) (l1 : 1 ≤ ln) (l2 : ln ≤ 34560000) :
    Calls Tryd.prog 12 #[vs, .int .i64 a, .pointer (some ⟨zL, 0, none⟩), .pointer (some ⟨zW, 0, none⟩)] w fun e w' => e = .returned (.int .i64 ((missL P S a (a + ln)).length : Int)) ∧ Below w.heap.size w w' := by
  obtain ⟨os, cs, rfl⟩ := hs.form
  obtain ⟨op, cp, rfl⟩ := hP.form
  obtain ⟨ns, hns⟩ : ∃ x, S.length = x := ⟨_, rfl⟩
  obtain ⟨np, hnp⟩ : ∃ x, P.length = x := ⟨_, rfl⟩
  have HS := Lib.hid hs
  have HP := Lib.hid hP
  have HNS := Lib.hid hns
  have HNP := Lib.hid hnp
  have HLP := Lib.hid lP
  have HWH := Lib.hid hwho
  have HML := Lib.hid (fun k => missL_len P (S.take k) a (a + ln))
  rw [hnp] at hL
  rw [hns] at nS ⊢
  have zl := World.block_lt_of_cell? _ _ hL
  have zw := World.block_lt_of_cell? _ _ hW
  have HC : Hid (∀ w', Below w.heap.size w w' → w'.cell? ⟨zL, 0, none⟩ = some (.slice op np cp) ∧ w'.cell? ⟨zW, 0, none⟩ = some (.int .i64 ln)) := Lib.hid fun w' hb => ⟨(hb.cell (p := ⟨zL, 0, none⟩) zl).trans hL, (hb.cell (p := ⟨zW, 0, none⟩) zw).trans hW⟩
  have e1 : IntKind.i64.wrap (a + ln) = a + ln := IntWalk.i64_in _ (by omega)
  have e2 : wrap64 (a + ln) = a + ln := wrap_in (InI.mk (by omega) (by omega))
  have hab : a < a + ln := by omega
  have COF := Lib.hid (fun v w0 h => ptimes_any v [(a, a + ln)] w0 h (by simp))
  obtain ⟨b, hb⟩ : ∃ b, a + ln = b := ⟨_, rfl⟩
  rw [hb] at HML COF e1 e2 hab ⊢
  clear hs hP hns hnp lP hwho hL hW zl zw l1 l2 a1 a2
  go_enter Tryd.func12, Tryd.ntmps12
  go_upto_region 3 with fail
  go_loopw [7, 13] (fun y c wr => ∃ (k : Nat), y = .int .i64 ((missL P (S.take k) a b).length : Int) ∧ c = .int .i64 (k : Int) ∧ k ≤ ns ∧ Hid (Below w.heap.size w wr)) (fun _ c _ => ns - (intOf c).toNat)
  case atStart => exact ⟨0, rfl, rfl, by omega, Lib.hid (Below.refl _ _)⟩
  case round =>
    obtain ⟨k, rfl, rfl, hk, HBk⟩ := hrel
    by_cases hkn : k < ns
    · have hk' : k < S.length := by rw [HNS.out]; exact hkn
      obtain ⟨am, rfl, hcm⟩ := (HS.out.call HBk.out).at hk'
      have HTK := Lib.hid (missL_take (P := P) hk' a b)
      have hx := HWH.out (S.getD k 0) (at_mem hk')
      obtain ⟨x, hxx⟩ : ∃ x, S.getD k 0 = x := ⟨_, rfl⟩
      rw [hxx] at hcm hx HTK
      obtain ⟨xn, hxn⟩ : ∃ n : Nat, x = n := ⟨x.toNat, by omega⟩
      subst hxn
      have hxp : xn < P.length := by omega
      obtain ⟨ap, oc, c, rfl, hcp, hiv⟩ := HP.out.at hxp
      have hln := HLP.out (P.getD xn []) (by rw [List.getD_eq_getElem?_getD, List.getElem?_eq_getElem hxp]; exact List.getElem_mem _)
      rw [Int.toNat_natCast] at HTK
      obtain ⟨Lx, hLx⟩ : ∃ L, P.getD xn [] = L := ⟨_, rfl⟩
      rw [hLx] at hcp hiv hln HTK
      obtain ⟨nx, hnx⟩ : ∃ n, Lx.length = n := ⟨_, rfl⟩
      have CA := Lib.hid (fun v q w0 (hb : Below w.heap.size w w0) (h : IvS w0 v q) (hq : OfM [(a, b)] q) => pand_any _ v Lx q w0 (hiv.call hb) h (Nat.le_trans (Nat.mul_le_mul hln.2 hq.len) (by simp)) (by omega) (by have := hq.len; simp at this; omega) hln.1)
      have HFR := Lib.hid (fun o q (hq : OfM [(a, b)] q) (h : AndM Lx q o) => FreR.of hln.1 hq h hab)
      rw [hnx] at hcp CA
      have hnl := hln.2
      rw [hnx] at hnl
      have HCP := Lib.hid (fun w' (hb : Below w.heap.size w w') => (hb.cell (World.block_lt_of_cell? _ _ hcp)).trans hcp)
      have k1 : (k : Int) < (ns : Int) := by omega
      have k2 : (0 : Int) ≤ (k : Int) := by omega
      have k3 : (xn : Int) < (np : Int) := by have := HNP.out; omega
      have k4 : (0 : Int) ≤ (xn : Int) := by omega
      have HNX := Lib.hid hnx
      clear hxx hLx hnx hiv hx hln hcp hxp
      go_upto_region 5 with fail
      clear hcm
      have HCW := Lib.hid (fun wx (hb : Below w.heap.size w wx) => (And.intro (HC.out wx hb).1 (And.intro (HCP.out wx hb) (HC.out wx hb).2)))
      have HPB0 : Hid (IvS ((wr.alloc (.cells #[.int .i64 a, .int .i64 b] 55)).drew) (.slice (some ⟨wr.heap.size, 0, none⟩) 1 1) [(a, b)]) := Lib.hid ((IvS.oneN wr a b).call (below_drew (Below.refl _ _)))
      have HPB1 : Hid (IvS (((wr.alloc (.cells #[.slice none 0 0] 33)).alloc (.cells #[.int .i64 a, .int .i64 b] 55)).drew) (.slice (some ⟨wr.heap.size + 1, 0, none⟩) 1 1) [(a, b)]) := Lib.hid (by have h := (IvS.oneN (wr.alloc (.cells #[.slice none 0 0] 33)) a b).call (below_drew (Below.refl _ _)); simpa using h)
      have HPB2 : Hid (IvS (((wr.alloc (.cells #[.int .i64 a, .int .i64 b] 55)).alloc (.cells #[.slice none 0 0] 33)).drew) (.slice (some ⟨wr.heap.size, 0, none⟩) 1 1) [(a, b)]) := Lib.hid ((IvS.oneN wr a b).call (below_drew ((Below.refl _ _).alloc (Nat.le_refl _) _)))
      have HZB : Hid (∀ w6, Below (((wr.alloc (.cells #[.slice none 0 0] 33)).alloc (.cells #[.int .i64 a, .int .i64 b] 55)).drew).heap.size (((wr.alloc (.cells #[.slice none 0 0] 33)).alloc (.cells #[.int .i64 a, .int .i64 b] 55)).drew) w6 → w6.cell? ⟨wr.heap.size, 0, none⟩ = some (.slice none 0 0) ∧ w6.frozen? ⟨wr.heap.size, 0, none⟩ = false ∧ wr.heap.size < w6.heap.size) := Lib.hid fun w6 hb => ⟨(hb.cell (p := ⟨wr.heap.size, 0, none⟩) (by first | (simp [go_sem]; done) | (simp [go_sem]; omega))).trans (by first | (simp [go_sem]; done) | (simp [go_sem]; omega)), (hb.frozen (p := ⟨wr.heap.size, 0, none⟩) (by first | (simp [go_sem]; done) | (simp [go_sem]; omega))).trans (by first | (simp [go_sem]; done) | (simp [go_sem]; omega)), Nat.lt_of_lt_of_le (by first | (simp [go_sem]; done) | (simp [go_sem]; omega)) hb.size⟩
      have HZC : Hid (∀ w6, Below (((wr.alloc (.cells #[.int .i64 a, .int .i64 b] 55)).alloc (.cells #[.slice none 0 0] 33)).drew).heap.size (((wr.alloc (.cells #[.int .i64 a, .int .i64 b] 55)).alloc (.cells #[.slice none 0 0] 33)).drew) w6 → w6.cell? ⟨wr.heap.size + 1, 0, none⟩ = some (.slice none 0 0) ∧ w6.frozen? ⟨wr.heap.size + 1, 0, none⟩ = false ∧ wr.heap.size + 1 < w6.heap.size) := Lib.hid fun w6 hb => ⟨(hb.cell (p := ⟨wr.heap.size + 1, 0, none⟩) (by first | (simp [go_sem]; done) | (simp [go_sem]; omega))).trans (by first | (simp [go_sem]; done) | (simp [go_sem]; omega)), (hb.frozen (p := ⟨wr.heap.size + 1, 0, none⟩) (by first | (simp [go_sem]; done) | (simp [go_sem]; omega))).trans (by first | (simp [go_sem]; done) | (simp [go_sem]; omega)), Nat.lt_of_lt_of_le (by first | (simp [go_sem]; done) | (simp [go_sem]; omega)) hb.size⟩
      have HZD : Hid (∀ w6 w8 : World, Below (((w6.alloc (.cells #[.slice none 0 0] 33)))).heap.size (((w6.alloc (.cells #[.slice none 0 0] 33)))) w8 → w8.cell? ⟨w6.heap.size, 0, none⟩ = some (.slice none 0 0) ∧ w8.frozen? ⟨w6.heap.size, 0, none⟩ = false) := Lib.hid fun w6 w8 hb => ⟨(hb.cell (p := ⟨w6.heap.size, 0, none⟩) (by first | (simp [go_sem]; done) | (simp [go_sem]; omega))).trans (by first | (simp [go_sem]; done) | (simp [go_sem]; omega)), (hb.frozen (p := ⟨w6.heap.size, 0, none⟩) (by first | (simp [go_sem]; done) | (simp [go_sem]; omega))).trans (by first | (simp [go_sem]; done) | (simp [go_sem]; omega))⟩
      go_cut [10] from 17 to 29 (fun q wx => FreP Lx a b w.heap.size w q wx)
      case first =>
        go_region_held3 (fun w' => w'.cell? ⟨zL, 0, none⟩ = some (.slice (some ap) np cp) ∧ w'.cell? (ap.add xn) = some (.slice oc nx c) ∧ w'.cell? ⟨zW, 0, none⟩ = some (.int .i64 ln)) (exact HCW.out _ (by repeat (first | with_reducible exact Below.refl _ _ | with_reducible exact HX8.out | with_reducible exact HX6.out | with_reducible exact HBk.out | (with_reducible refine Below.drew ?_) | (with_reducible refine Below.alloc ?_ (by first | exact Nat.le_refl _ | exact HX8.out.size | exact HX6.out.size | exact HBk.out.size | (have := HBk.out.size; simp <;> omega) | (have := HX6.out.size; simp <;> omega) | (have := HX8.out.size; simp <;> omega)) _) | (with_reducible refine Below.setCell ?_ (by first | (have := HBk.out.size; simp <;> omega) | (have := HX6.out.size; simp <;> omega) | (have := HX8.out.size; simp <;> omega)) _)))) (first
          | (go_at_call 5; refine (COF.out _ _ (by first | with_reducible exact HPB0.out | with_reducible exact HPB1.out | with_reducible exact HPB2.out)).mono ?_; rintro e w6 ⟨v6, q6, rfl, hof, hv6, hnw6, hb6⟩; have HX6 := Lib.hid ((show Below w.heap.size w _ from (by repeat (first | with_reducible exact Below.refl _ _ | with_reducible exact HX8.out | with_reducible exact HX6.out | with_reducible exact HBk.out | (with_reducible refine Below.drew ?_) | (with_reducible refine Below.alloc ?_ (by first | exact Nat.le_refl _ | exact HX8.out.size | exact HX6.out.size | exact HBk.out.size | (have := HBk.out.size; simp <;> omega) | (have := HX6.out.size; simp <;> omega) | (have := HX8.out.size; simp <;> omega)) _) | (with_reducible refine Below.setCell ?_ (by first | (have := HBk.out.size; simp <;> omega) | (have := HX6.out.size; simp <;> omega) | (have := HX8.out.size; simp <;> omega)) _)))).trans (hb6.mono (by have := HBk.out.size; simp <;> omega))); have HO6 := Lib.hid hof; have H6 := Lib.hid hv6; (first | (have HY6 := Lib.hid (HZB.out _ hb6)) | (have HY6 := Lib.hid (HZC.out _ hb6)) | skip); obtain ⟨o6, c6, rfl, -, -⟩ := id hv6; clear hof hv6 hnw6 hb6)
          | (go_at_call 13; refine (CA.out _ _ _ (by repeat (first | with_reducible exact Below.refl _ _ | with_reducible exact HX8.out | with_reducible exact HX6.out | with_reducible exact HBk.out | (with_reducible refine Below.drew ?_) | (with_reducible refine Below.alloc ?_ (by first | exact Nat.le_refl _ | exact HX8.out.size | exact HX6.out.size | exact HBk.out.size | (have := HBk.out.size; simp <;> omega) | (have := HX6.out.size; simp <;> omega) | (have := HX8.out.size; simp <;> omega)) _) | (with_reducible refine Below.setCell ?_ (by first | (have := HBk.out.size; simp <;> omega) | (have := HX6.out.size; simp <;> omega) | (have := HX8.out.size; simp <;> omega)) _))) (H6.out.call (by repeat (first | with_reducible exact Below.refl _ _ | with_reducible exact HX8.out | with_reducible exact HX6.out | with_reducible exact HBk.out | (with_reducible refine Below.drew ?_) | (with_reducible refine Below.alloc ?_ (by first | exact Nat.le_refl _ | exact HX8.out.size | exact HX6.out.size | exact HBk.out.size | (have := HBk.out.size; simp <;> omega) | (have := HX6.out.size; simp <;> omega) | (have := HX8.out.size; simp <;> omega)) _) | (with_reducible refine Below.setCell ?_ (by first | (have := HBk.out.size; simp <;> omega) | (have := HX6.out.size; simp <;> omega) | (have := HX8.out.size; simp <;> omega)) _)))) HO6.out).mono ?_; rintro e w8 ⟨v8, o8, rfl, han, hv8, hnw8, hb8⟩; have HX8 := Lib.hid ((show Below w.heap.size w _ from (by repeat (first | with_reducible exact Below.refl _ _ | with_reducible exact HX8.out | with_reducible exact HX6.out | with_reducible exact HBk.out | (with_reducible refine Below.drew ?_) | (with_reducible refine Below.alloc ?_ (by first | exact Nat.le_refl _ | exact HX8.out.size | exact HX6.out.size | exact HBk.out.size | (have := HBk.out.size; simp <;> omega) | (have := HX6.out.size; simp <;> omega) | (have := HX8.out.size; simp <;> omega)) _) | (with_reducible refine Below.setCell ?_ (by first | (have := HBk.out.size; simp <;> omega) | (have := HX6.out.size; simp <;> omega) | (have := HX8.out.size; simp <;> omega)) _)))).trans (hb8.mono (by have := HX6.out.size; simp <;> omega))); have HF8 := Lib.hid (HFR.out _ _ HO6.out han); have H8 := Lib.hid hv8; have HNW8 := Lib.hid hnw8; (first | (have y8 := (HZD.out _ _ hb8).1; have z8 := (HZD.out _ _ hb8).2) | (have y8 := (hb8.cell HY6.out.2.2).trans HY6.out.1; have z8 := (hb8.frozen HY6.out.2.2).trans HY6.out.2.1) | skip); obtain ⟨ob8, c8, rfl, -, -⟩ := id hv8; obtain ⟨n8, hn8⟩ : ∃ n, o8.length = n := ⟨_, rfl⟩; have HN8 := Lib.hid hn8; rw [hn8] at H8 HNW8 ⊢; have HB8 := Lib.hid hb8; clear han hv8 hnw8 hb8 hn8))
        all_goals go_wp2_with fail
        all_goals go_meet
        all_goals first
          | exact ⟨_, _, o8, rfl, (by simp), H8.out.call ((Below.refl _ _).alloc (Nat.le_refl _) _), HF8.out, HX8.out.alloc (by have := HX8.out.size; exact this) _⟩
          | exact ⟨_, _, o8, rfl, World.cell?_setCell_same _ _ _ (HZD.out _ _ HB8.out).1, H8.out.far (fun x c n e => by have h := HNW8.out x n c e; simp at h; show _ ≠ _; omega) _ _, HF8.out, HX8.out.setCell (p := ⟨w6.heap.size, 0, none⟩) (by have := HX6.out.size; exact this) _⟩
          | exact ⟨_, _, o8, rfl, World.cell?_setCell_same _ _ _ ((HB8.out.cell HY6.out.2.2).trans HY6.out.1), H8.out.far (fun x c n e => by have h := HNW8.out x n c e; have h2 := HY6.out.2.2; show _ ≠ _; omega) _ _, HF8.out, HX8.out.setCell (p := ⟨_, 0, none⟩) (by have := HBk.out.size; first | exact this | exact Nat.le_succ_of_le this) _⟩
      case rest =>
        obtain ⟨z, v, o, rfl, hz, hv, hf, hb⟩ := hcut
        obtain ⟨ob, cb, rfl, -, -⟩ := id hv
        have CSP := Lib.hid (pspans_any _ o wc hv (by have := hf.2; have := HNX.out; omega))
        obtain ⟨no, hno⟩ : ∃ n, o.length = n := ⟨_, rfl⟩
        have HNO := Lib.hid hno
        have HF := Lib.hid hf
        have HB := Lib.hid hb
        rw [hno] at hz CSP
        clear hv hf hb hno
        cases hq : decide (no = 0) with
        | true =>
          have hn0 := of_decide_eq_true hq
          subst hn0
          have HM2 : Hid (missL P (S.take (k + 1)) a b = missL P (S.take k) a b) := Lib.hid (by rw [HTK.out, HF.out.1, HNO.out]; simp)
          clear hq
          go_wp2_with (go_at_call 14; refine CSP.out.mono ?_; rintro e w5 ⟨v5, rfl, hv5, hb5⟩; obtain ⟨o5, c5, rfl, -, -⟩ := id hv5; rw [HNO.out]; have HB5 := Lib.hid (HB.out.trans (hb5.mono HB.out.size)); clear hv5 hb5)
          go_roundw
          case rel => exact ⟨k + 1, by rw [HM2.out], by go_num, by omega, HB5⟩
          case measure => simp [intOf]; omega
        | false =>
          have hn0 := of_decide_eq_false hq
          have d0 : (0 : Int) < (no : Int) := by omega
          have HM2 : Hid (missL P (S.take (k + 1)) a b = missL P (S.take k) a b ++ [(xn : Int)]) := Lib.hid (by rw [HTK.out, HF.out.1, HNO.out, hq]; simp)
          have hml := HML.out k
          rw [List.length_take] at hml
          obtain ⟨ML, hMl⟩ : ∃ n, (missL P (S.take k) a b).length = n := ⟨_, rfl⟩
          have HMl := Lib.hid hMl
          rw [hMl] at hml ⊢
          have hmb : ML ≤ 10000000 := by omega
          clear hq hml hMl
          go_wp2_with (go_at_call 14; refine CSP.out.mono ?_; rintro e w5 ⟨v5, rfl, hv5, hb5⟩; obtain ⟨o5, c5, rfl, -, -⟩ := id hv5; rw [HNO.out]; have HB5 := Lib.hid (HB.out.trans (hb5.mono HB.out.size)); clear hv5 hb5)
          go_roundw
          case rel => exact ⟨k + 1, by rw [HM2.out, List.length_append, HMl.out]; go_num, by go_num, by omega, HB5⟩
          case measure => simp [intOf]; omega
    · have hkk : k = ns := by omega
      subst hkk
      go_wp2_with fail
      go_ret
      exact ⟨by rw [← HNS.out, List.take_length]; rfl, HBk.out⟩
end Go.Proofs.YtbmndenopgkpoaaDoor
