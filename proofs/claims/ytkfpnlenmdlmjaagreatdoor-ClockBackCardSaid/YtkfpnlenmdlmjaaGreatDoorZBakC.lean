/- The law ClockBack. -/
import Derived.Test.YtkfpnlenmdlmjaaGreatDoorZBakB
import Derived.Test.YtkfpnlenmdlmjaaGreatDoorZPrsV
import Derived.Test.YtkfpnlenmdlmjaaGreatDoorZPerP
import Derived.Test.YtkfpnlenmdlmjaaGreatDoorZTxtE
import Derived.Deep.CutRange
namespace Go.Proofs.YtkfpnlenmdlmjaaGreatDoor
open Go.RowKit Scm
def BigP (a b c d e : Int) : Prop := 99999999 < a ∨ 99999999 < b ∨ 99999999 < c ∨ 99999999 < d ∨ 359999996400 < e ∨ a < -99999999 ∨ b < -99999999 ∨ c < -99999999 ∨ d < -99999999 ∨ e < -359999996400
theorem str_dl (l : List UInt8) : (⟨l.toArray⟩ : ByteArray).data.toList = l := by simp
/-- What a period's text gives back. -/
theorem per_back5 {a b c d e : Int} (hE : Per.textE (Per.five a b c d e) = 0) (hB : ¬ BigP a b c d e) : (perF (Per.textL (Per.five a b c d e))).err = 0 ∧ agg5 (perF (Per.textL (Per.five a b c d e))).v = .agg #[.int .i64 a, .int .i64 b, .int .i64 c, .int .i64 d, .int .i64 e] := by
  unfold BigP at hB
  obtain ⟨q1, -, q3⟩ := Bk.per_back (v := Per.five a b c d e) hE (fun i hi => by rcases (show i = 0 ∨ i = 1 ∨ i = 2 ∨ i = 3 by omega) with rfl | rfl | rfl | rfl <;> simp only [Per.five] <;> omega) (by simp only [Per.five]; omega)
  refine ⟨q1, ?_⟩
  unfold agg5
  rw [q3 0 (by omega), q3 1 (by omega), q3 2 (by omega), q3 3 (by omega), q3 4 (by omega)]
  rfl
theorem StR.len {t z o : Int} {R : List UInt8} {x : Int} (h : StR t z o R x) : R.length ≤ 500 := by
  obtain ⟨S, e, hT, hF⟩ := h
  have h1 := hT.len
  have h2 : (offL o).length ≤ 100 := by
    unfold offL
    split
    · rename_i h
      have h3 : -86400 < o ∧ o < 86400 := by
        unfold offE at h
        split at h
        · exact absurd h (by decide)
        · omega
      exact offS_len h3.1 h3.2
    · simp
  have e : R = (stF S e z o).1 := by rw [hF]
  rw [e]
  unfold stF
  (repeat' split) <;> simp <;> omega
theorem perText_len (v : Per.F) : (Per.textL v).length ≤ 500 := by
  unfold Per.textL
  split
  · rename_i h
    have hb : Per.bigB v 5 = false := by
      cases hB : Per.bigB v 5 with
      | false => rfl
      | true => rw [(Per.textE_big hB).1] at h; exact absurd h (by decide)
    have k := fun i (hi : i < 5) => Per.bigB_no hb hi
    have k0 := k 0 (by omega)
    have k1 := k 1 (by omega)
    have k2 := k 2 (by omega)
    have k3 := k 3 (by omega)
    have k4 := k 4 (by omega)
    have head : ∀ u : Per.F, u 0 ≤ 1000000000000 → u 1 ≤ 1000000000000 → u 2 ≤ 1000000000000 → u 3 ≤ 1000000000000 → (Per.headL u).length ≤ 100 := by
      intro u a b c d
      have p0 := Per.partL_len (n := u 0) (u := 89) (by omega)
      have p1 := Per.partL_len (n := u 1) (u := 77) (by omega)
      have p2 := Per.partL_len (n := u 2) (u := 87) (by omega)
      have p3 := Per.partL_len (n := u 3) (u := 68) (by omega)
      unfold Per.headL
      simp only [List.length_append, List.length_cons, List.length_nil]
      omega
    have tail : ∀ s : Int, s ≤ 1000000000000 → (Per.tailL s).length ≤ 100 := by
      intro s hs
      have p0 := Per.partL_len (n := s / 3600) (u := 72) (by omega)
      have p1 := Per.partL_len (n := s / 60 % 60) (u := 77) (by omega)
      have p2 := Per.partL_len (n := s % 60) (u := 83) (by omega)
      unfold Per.tailL
      split
      · simp only [List.length_append, List.length_cons, List.length_nil]
        omega
      · simp
    unfold Per.textS
    split
    · have q1 := head (Per.neg v) (by unfold Per.neg; omega) (by unfold Per.neg; omega) (by unfold Per.neg; omega) (by unfold Per.neg; omega)
      have q2 := tail (- v 4) (by omega)
      simp only [List.length_append, List.length_cons, List.length_nil]
      omega
    · split
      · have q1 := head v (by omega) (by omega) (by omega) (by omega)
        have q2 := tail (v 4) (by omega)
        simp only [List.length_append]
        omega
      · simp
  · simp
theorem size_arr (l : List UInt8) : (⟨l.toArray⟩ : ByteArray).size = l.length := rfl
set_option maxRecDepth 100000 in
set_option maxHeartbeats 8000000 in
theorem clockBack_walk (t z o a b c d e : Int) (w : World) (hT : ErrT w) (hr : RomanT w) (hp : Pow w) :
    Calls Tryz.prog 6 #[.agg #[.int .i64 t, .int .i64 z, .int .i64 o], .agg #[.int .i64 a, .int .i64 b, .int .i64 c, .int .i64 d, .int .i64 e]] w fun ev w' => ev = .returned (.bool true) ∧ Below w.heap.size w w' := by
  have C1 : Hid (∀ w0, Below w.heap.size w w0 → Calls Tryz.prog 13 #[.agg #[.int .i64 t, .int .i64 z, .int .i64 o]] w0 fun ev w' => ∃ R x, ev = .returned (.tuple #[.string R, .int .i64 x]) ∧ (x = 0 → ∀ w0, Below w.heap.size w w0 → Calls Tryz.prog 7 #[.string R] w0 fun ev w' => ev = .returned (.tuple #[.agg #[.int .i64 t, .int .i64 z, .int .i64 o], .int .i64 0, .int .i64 (-1)]) ∧ Below w0.heap.size w0 w') ∧ Below w0.heap.size w0 w') := Lib.hid fun w0 hb => (plainStamp_any t z o w0 (hT.call hb) (hr.call hb) (hp.call hb)).mono fun ev w' (h : StPost _ _ _ _ _) => by
    obtain ⟨R, x, h1, h2, h3⟩ := h
    refine ⟨_, x, h1, fun hx w1 hb1 => ?_, h3⟩
    subst hx
    have hP := stamp_back h2
    refine (plainParseS_any ⟨R.toArray⟩ w1 (hT.call hb1) (hr.call hb1) (by have := h2.len; rw [size_arr]; omega)).mono fun ev w' (h : PlPost _ _ _ _) => ?_
    unfold PlPost at h
    rw [hP] at h
    exact h
  obtain ⟨P, hP⟩ : ∃ P : ByteArray, (⟨(Per.textL (Per.five a b c d e)).toArray⟩ : ByteArray) = P := ⟨_, rfl⟩
  obtain ⟨x3, hx3⟩ : ∃ x, Per.textE (Per.five a b c d e) = x := ⟨_, rfl⟩
  obtain ⟨Big, hBig⟩ : ∃ x : Bool, decide (99999999 < a ∨ 99999999 < b ∨ 99999999 < c ∨ 99999999 < d ∨ 359999996400 < e ∨ a < -99999999 ∨ b < -99999999 ∨ c < -99999999 ∨ d < -99999999 ∨ e < -359999996400) = x := ⟨_, rfl⟩
  have C3 : Hid (∀ w0, Below w.heap.size w w0 → Calls Tryz.prog 17 #[.agg #[.int .i64 a, .int .i64 b, .int .i64 c, .int .i64 d, .int .i64 e]] w0 fun ev w' => ev = .returned (.tuple #[.string P, .int .i64 x3]) ∧ Below w0.heap.size w0 w') := Lib.hid fun w0 hb => (plainPer_any a b c d e w0 (hT.call hb) (hp.call hb)).mono fun ev w' (h : TxPost _ _ _ _ _) => by unfold TxPost at h; rw [hP, hx3] at h; exact h
  have C4 : Hid (x3 = 0 → ∀ w0, Below w.heap.size w w0 → Calls Tryz.prog 18 #[.string P] w0 fun ev w' => ∃ v0 v1 v2 v3 v4 x4 pl, ev = .returned (.tuple #[.agg #[.int .i64 v0, .int .i64 v1, .int .i64 v2, .int .i64 v3, .int .i64 v4], .int .i64 x4, .int .i64 pl]) ∧ (Big = false → x4 = 0 ∧ v0 = a ∧ v1 = b ∧ v2 = c ∧ v3 = d ∧ v4 = e) ∧ Below w0.heap.size w0 w') := Lib.hid fun h0 w0 hb => by
    refine (plainParse_any P w0 (hT.call hb) (by have := perText_len (Per.five a b c d e); rw [← hP, size_arr]; omega)).mono fun ev w' (h : PpPost _ _ _ _) => ?_
    obtain ⟨h1, h2⟩ := h
    refine ⟨_, _, _, _, _, _, _, h1, fun hb => ?_, h2⟩
    have hB : ¬ (99999999 < a ∨ 99999999 < b ∨ 99999999 < c ∨ 99999999 < d ∨ 359999996400 < e ∨ a < -99999999 ∨ b < -99999999 ∨ c < -99999999 ∨ d < -99999999 ∨ e < -359999996400) := of_decide_eq_false (hBig.trans hb)
    obtain ⟨q1, q2⟩ := per_back5 (hx3.trans h0) hB
    rw [← hP, str_dl]
    unfold agg5 at q2
    injection q2 with q2
    injection q2 with q2
    simp only [List.cons.injEq, Value.int.injEq, true_and, and_true] at q2
    exact ⟨q1, q2⟩
  have HE : Hid (x3 ≠ 0 → P = ⟨#[]⟩) := Lib.hid fun h => by rw [← hP]; unfold Per.textL; rw [if_neg (fun h2 => h (hx3.symm.trans h2))]
  have HBIG : Hid (decide (99999999 < a ∨ 99999999 < b ∨ 99999999 < c ∨ 99999999 < d ∨ 359999996400 < e ∨ a < -99999999 ∨ b < -99999999 ∨ c < -99999999 ∨ d < -99999999 ∨ e < -359999996400) = Big) := Lib.hid hBig
  clear hP hx3 hBig hT hr hp
  have HB0 := Lib.hid (((Below.refl w.heap.size w).alloc (Nat.le_refl _) (.cells #[.int .i64 t, .int .i64 z, .int .i64 o] 24)).alloc (by simp) (.cells #[.int .i64 a, .int .i64 b, .int .i64 c, .int .i64 d, .int .i64 e] 43))
  obtain ⟨wB, hwB⟩ : ∃ x, (w.alloc (.cells #[.int .i64 t, .int .i64 z, .int .i64 o] 24)).alloc (.cells #[.int .i64 a, .int .i64 b, .int .i64 c, .int .i64 d, .int .i64 e] 43) = x := ⟨_, rfl⟩
  have hlt : w.heap.size + 1 < wB.heap.size := by rw [← hwB]; simp
  have HQ : Hid ((wB.cell? ⟨w.heap.size, 0, none⟩ = some (.int .i64 t) ∧ wB.cell? ⟨w.heap.size, 1, none⟩ = some (.int .i64 z) ∧ wB.cell? ⟨w.heap.size, 2, none⟩ = some (.int .i64 o)) ∧ wB.cell? ⟨w.heap.size + 1, 0, none⟩ = some (.int .i64 a) ∧ wB.cell? ⟨w.heap.size + 1, 1, none⟩ = some (.int .i64 b) ∧ wB.cell? ⟨w.heap.size + 1, 2, none⟩ = some (.int .i64 c) ∧ wB.cell? ⟨w.heap.size + 1, 3, none⟩ = some (.int .i64 d) ∧ wB.cell? ⟨w.heap.size + 1, 4, none⟩ = some (.int .i64 e)) := Lib.hid (by rw [← hwB]; simp [go_sem])
  have S1 : Hid (∀ wx, Below wB.heap.size wB wx → w.heap.size < wx.heap.size ∧ wx.cell? ⟨w.heap.size, 0, none⟩ = some (.int .i64 t) ∧ wx.cell? ⟨w.heap.size, 1, none⟩ = some (.int .i64 z) ∧ wx.cell? ⟨w.heap.size, 2, none⟩ = some (.int .i64 o)) := Lib.hid fun wx hb => ⟨Nat.lt_of_lt_of_le (by omega) hb.size, (hb.cell (p := ⟨w.heap.size, 0, none⟩) (by show w.heap.size < _; omega)).trans HQ.out.1.1, (hb.cell (p := ⟨w.heap.size, 1, none⟩) (by show w.heap.size < _; omega)).trans HQ.out.1.2.1, (hb.cell (p := ⟨w.heap.size, 2, none⟩) (by show w.heap.size < _; omega)).trans HQ.out.1.2.2⟩
  have S2 : Hid (∀ wx, Below wB.heap.size wB wx → w.heap.size + 1 < wx.heap.size ∧ wx.cell? ⟨w.heap.size + 1, 0, none⟩ = some (.int .i64 a) ∧ wx.cell? ⟨w.heap.size + 1, 1, none⟩ = some (.int .i64 b) ∧ wx.cell? ⟨w.heap.size + 1, 2, none⟩ = some (.int .i64 c) ∧ wx.cell? ⟨w.heap.size + 1, 3, none⟩ = some (.int .i64 d) ∧ wx.cell? ⟨w.heap.size + 1, 4, none⟩ = some (.int .i64 e)) := Lib.hid fun wx hb => ⟨Nat.lt_of_lt_of_le hlt hb.size, (hb.cell (p := ⟨w.heap.size + 1, 0, none⟩) hlt).trans HQ.out.2.1, (hb.cell (p := ⟨w.heap.size + 1, 1, none⟩) hlt).trans HQ.out.2.2.1, (hb.cell (p := ⟨w.heap.size + 1, 2, none⟩) hlt).trans HQ.out.2.2.2.1, (hb.cell (p := ⟨w.heap.size + 1, 3, none⟩) hlt).trans HQ.out.2.2.2.2.1, (hb.cell (p := ⟨w.heap.size + 1, 4, none⟩) hlt).trans HQ.out.2.2.2.2.2⟩
  have HwB := Lib.hid hwB
  have HBw : Hid (Below w.heap.size w wB) := Lib.hid (by rw [← hwB]; exact HB0.out)
  clear hwB HQ hlt
  go_enter Tryz.func6, Tryz.ntmps6
  go_upto_if 22 with (go_at_call 13; (with_reducible refine (C1.out _ HB0.out).mono ?_); rintro ev w1 ⟨R, x, rfl, hq, hb1⟩; rw [HwB.out] at hb1; have HX := Lib.hid hq; have HB1 := Lib.hid hb1; clear hq hb1)
  go_cut [] from 5 (fun wx => Hid (Below wB.heap.size wB wx))
  case first =>
    by_cases hx : x = 0
    · subst hx
      have CP := Lib.hid (HX.out rfl)
      have HW1 := Lib.hid (thenB HBw.out HB1.out)
      clear HX
      go_wp2_with (go_at_call 7; (with_reducible refine (CP.out _ HW1.out).mono ?_); rintro ev w2 ⟨rfl, hb2⟩; have HB2 := Lib.hid (thenB HB1.out hb2); obtain ⟨l0, c0, c1, c2⟩ := S1.out _ HB2.out; clear hb2)
      go_meet
      case rel => exact Lib.hid (HB2.out.alloc HB2.out.size _)
    · have d1 : (x == 0) = false := by simpa using hx
      clear hx HX
      go_wp2_with fail
      go_meet
      case rel => exact HB1
  case rest =>
    clear HB1 HX
    have HC := hcut
    clear hcut
    obtain ⟨l0, c0, c1, c2, c3, c4⟩ := S2.out _ HC.out
    have HWc := Lib.hid (thenB HBw.out HC.out)
    go_upto_region 7 with (go_at_call 17; (with_reducible refine (C3.out _ HWc.out).mono ?_); rintro ev w3 ⟨rfl, hb3⟩; have HB3 := Lib.hid (thenB HC.out hb3); clear hb3; clear l0 c0 c1 c2 c3 c4)
    have HW3 := Lib.hid (thenB HBw.out HB3.out)
    by_cases hx : x3 = 0
    · have CP := Lib.hid (C4.out hx)
      subst hx
      clear C4 C3 C1 HE
      obtain ⟨l0, c0, c1, c2, c3, c4⟩ := S2.out _ HB3.out
      go_upto_region 9 with fail
      go_cut [12] from 13 (fun s wx => s = .bool Big ∧ wx = w3)
      case first =>
        go_wp2_with fail
        all_goals go_meet
        all_goals exact ⟨by rw [← HBIG.out]; (simp [Bool.or_assoc] <;> omega), rfl⟩
      case rest =>
        obtain ⟨rfl, rfl⟩ := hcut
        clear HBIG
        clear l0 c0 c1 c2 c3 c4
        go_upto_region 11 with (go_at_call 18; (with_reducible refine (CP.out _ HW3.out).mono ?_); rintro ev w4 ⟨v0, v1, v2, v3, v4, x4, pl, rfl, hv, hb4⟩; have HV := Lib.hid hv; have HB4 := Lib.hid (thenB HB3.out hb4); clear hv hb4)
        obtain ⟨l0, c0, c1, c2, c3, c4⟩ := S2.out _ HB4.out
        cases Big with
        | true =>
          go_wp2_with fail
          go_ret
          exact ⟨rfl, (thenB HBw.out HB4.out).alloc (thenB HBw.out HB4.out).size _⟩
        | false =>
          obtain ⟨rfl, rfl, rfl, rfl, rfl, rfl⟩ := HV.out rfl
          go_wp2_with fail
          go_ret
          exact ⟨rfl, (thenB HBw.out HB4.out).alloc (thenB HBw.out HB4.out).size _⟩
    · have d1 : (x3 == 0) = false := by simpa using hx
      have HP := HE.out hx
      subst HP
      clear hx
      go_wp2_with fail
      go_ret
      exact ⟨rfl, HW3.out⟩
end Go.Proofs.YtkfpnlenmdlmjaaGreatDoor
