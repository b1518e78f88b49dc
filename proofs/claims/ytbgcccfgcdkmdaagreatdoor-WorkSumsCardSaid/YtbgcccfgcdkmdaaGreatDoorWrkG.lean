/- The N-th weekday of a month. -/
import Derived.Test.YtbgcccfgcdkmdaaGreatDoorWrkF
import Derived.Deep.QuietTactic
namespace Go.Proofs.YtbgcccfgcdkmdaaGreatDoor
open Go.RowKit Wrk
theorem month_facts (y m : Int) (h1 : 1 ≤ y) (h2 : y ≤ 9999) (m1 : 1 ≤ m) (m2 : m ≤ 12) : Dm.Valid 1 y m 1 ∧ 28 ≤ Dm.length 1 y m ∧ Dm.length 1 y m ≤ 31 ∧ y1 y ≤ one1 y m ∧ one1 y m < y1 (y + 1) ∧ Dm.months 1 y = 12 := by
  have hm : Dm.months 1 y = 12 := by simp [Dm.months]
  have hl : 28 ≤ Dm.length 1 y m ∧ Dm.length 1 y m ≤ 31 := by
    have e : Dm.length 1 y m = if m = 2 ∧ Dm.leap 1 y = true then 29 else Dm.roman m := by unfold Dm.length; simp
    rw [e]
    unfold Dm.roman
    split
    · omega
    · repeat' split
      all_goals omega
  have hv : Dm.Valid 1 y m 1 := ⟨by omega, by omega, m1, by omega, by omega, by omega⟩
  have hi := Dm.in_year 1 y m 1 (by omega) (by omega) hv
  unfold y1 one1
  exact ⟨hv, hl.1, hl.2, by omega, by omega, hm⟩
set_option maxRecDepth 100000 in
set_option maxHeartbeats 16000000 in
theorem nth_any (x : Hol) (y : Int) (w : World) (hr : RomanT w) (hk : x.kind = 2) (m1 : 1 ≤ x.month) (m2 : x.month ≤ 12) (w1 : 1 ≤ x.wday) (w2 : x.wday ≤ 7) (n1 : -5 ≤ x.n) (n2 : x.n ≤ 5) (h1 : 1 ≤ y) (h2 : y ≤ 9999) :
    Calls Tryz.prog 81 #[holV x, .int .i64 y] w fun e w' => ∃ v l, e = .returned v ∧ IntL w' w.heap.size v l ∧ l.length ≤ 3 ∧ (∀ t, t ∈ l ↔ OnD x y t) ∧ Below w.heap.size w w' := by
  have hb := y1_bd y h1 (by omega)
  obtain ⟨hv, l1, l2, o1, o2, hm12⟩ := month_facts y x.month h1 h2 m1 m2
  have hl0 := lenE_valid (by omega) (by omega) hv
  obtain ⟨e1, e2⟩ := dayE_back (n := one1 y x.month) (by omega) (by omega) hv rfl (by omega) (by omega)
  have CL : Hid (∀ w0, RomanT w0 → Calls Tryz.prog 97 #[.int .i64 1, .int .i64 y, .int .i64 x.month] w0 fun e w' => e = .returned (.tuple #[.int .i64 (Dm.length 1 y x.month), .nilIface]) ∧ Below w0.heap.size w0 w') := Lib.hid fun w0 h => by
    have := length_all 1 y x.month w0 h
    unfold lenR at this
    rw [hl0, if_pos rfl, errV_nil] at this
    exact this
  have CD : Hid (∀ w0, RomanT w0 → Calls Tryz.prog 93 #[.agg #[.int .i64 1, .int .i64 y, .int .i64 x.month, .int .i64 1]] w0 fun e w' => e = .returned (.tuple #[.int .i64 (one1 y x.month), .nilIface]) ∧ Below w0.heap.size w0 w') := Lib.hid fun w0 h => by
    have := day_all 1 y x.month 1 w0 h
    rw [e1, e2, errV_nil] at this
    exact this
  have HON := Lib.hid (fun t => nth_on (y := y) (d := t) hk w1 w2)
  obtain ⟨P, hP⟩ : ∃ P : Int → Prop, ∀ t, OnD x y t ↔ P t := ⟨_, fun t => Iff.rfl⟩
  simp only [hP] at HON ⊢
  have hN : nthD y x.month x.wday x.n = nthD y x.month x.wday x.n := rfl
  conv at hN => lhs; unfold nthD
  obtain ⟨o, ho⟩ : ∃ o, one1 y x.month = o := ⟨_, rfl⟩
  obtain ⟨len, hlen⟩ : ∃ len, Dm.length 1 y x.month = len := ⟨_, rfl⟩
  rw [ho, hlen] at hN
  simp only [ho, hlen] at HON
  rw [ho] at CD
  rw [hlen] at CL
  have C1 : Hid (∀ m (w0 : World), Calls Tryz.prog 75 #[.int .i64 o] (w0.drewN m) fun e w' => e = .returned (.int .i64 (Dm.wd o)) ∧ w' = w0.drewN m) := Lib.hid fun m w0 => (weekday_any _ _ (InI.mk (by omega) (by omega))).mono fun e w' ⟨h1, h2⟩ => ⟨h1, h2.symm⟩
  have C2 : Hid (∀ m (w0 : World), Calls Tryz.prog 75 #[.int .i64 (o + len - 1)] (w0.drewN m) fun e w' => e = .returned (.int .i64 (Dm.wd (o + len - 1))) ∧ w' = w0.drewN m) := Lib.hid fun m w0 => (weekday_any _ _ (InI.mk (by omega) (by omega))).mono fun e w' ⟨h1, h2⟩ => ⟨h1, h2.symm⟩
  have u1 := Dm.wd_bd o
  have u2 := Dm.wd_bd (o + len - 1)
  obtain ⟨U, hU⟩ : ∃ U, Dm.wd o = U := ⟨_, rfl⟩
  obtain ⟨V, hV⟩ : ∃ V, Dm.wd (o + len - 1) = V := ⟨_, rfl⟩
  rw [hU] at C1 u1
  rw [hV] at C2 u2
  rw [hU, hV] at hN
  obtain ⟨R, hR⟩ : ∃ R, nthD y x.month x.wday x.n = R := ⟨_, rfl⟩
  rw [hR] at hN
  simp only [hR] at HON
  rw [ho] at o1 o2
  rw [hlen] at l1 l2
  clear hR hU hV ho hlen hP e1 e2 hl0 hv hm12
  obtain ⟨ki, ca, mo, dy, nn, wd, of, lo, hi, mvs⟩ := x
  unfold holV
  simp only at CL CD HON n1 n2 w1 w2 hN m1 m2 ⊢
  obtain ⟨wB, hwB⟩ : ∃ W, w.alloc (.cells #[.int .i64 ki, .int .i64 ca, .int .i64 mo, .int .i64 dy, .int .i64 nn, .int .i64 wd, .int .i64 of, .int .i64 lo, .int .i64 hi, .int .i64 mvs] 59) = W := ⟨_, rfl⟩
  have hB : Below w.heap.size w wB := by rw [← hwB]; exact (Below.refl _ _).alloc (Nat.le_refl _) _
  have HB := Lib.hid hB
  have HRB := Lib.hid (RomanT.call hr hB)
  have HLT := Lib.hid (show w.heap.size < wB.heap.size by rw [← hwB]; simp)
  have f2 : wB.cell? ⟨w.heap.size, 2, none⟩ = some (.int .i64 mo) := by rw [← hwB]; simp
  have f4 : wB.cell? ⟨w.heap.size, 4, none⟩ = some (.int .i64 nn) := by rw [← hwB]; simp
  have f5 : wB.cell? ⟨w.heap.size, 5, none⟩ = some (.int .i64 wd) := by rw [← hwB]; simp
  have HF := Lib.hid (And.intro f2 (And.intro f4 f5))
  have HN := Lib.hid hN
  clear hB hr hN
  go_enter Tryz.func81, Tryz.ntmps81
  go_upto_region 2 with (go_at_call 97; (with_reducible refine (CL.out _ HRB.out).mono ?_); rintro e w2 ⟨rfl, hb2⟩; have HB2 := Lib.hid hb2; clear hb2)
  clear hwB f4 f5
  have g2 := (HB2.out.cell (p := ⟨w.heap.size, 2, none⟩) HLT.out).trans HF.out.1
  go_upto_region 3 with (go_at_call 93; (with_reducible refine (CD.out _ (RomanT.call HRB.out HB2.out)).mono ?_); rintro e w3 ⟨rfl, hb3⟩; have HB3 := Lib.hid (thenB HB2.out hb3); clear hb3)
  have g4 := (HB3.out.cell (p := ⟨w.heap.size, 4, none⟩) HLT.out).trans HF.out.2.1
  have g5 := (HB3.out.cell (p := ⟨w.heap.size, 5, none⟩) HLT.out).trans HF.out.2.2
  clear g2 f2
  obtain ⟨M, hM⟩ : ∃ M, (wd - U + 7) % 7 = M := ⟨_, rfl⟩
  have hMb : 0 ≤ M ∧ M < 7 := by omega
  have a1 : wrap64 (wd - U) = wd - U := wrap_in (InI.mk (by omega) (by omega))
  have a2 : wrap64 (wd - U + 7) = wd - U + 7 := wrap_in (InI.mk (by omega) (by omega))
  have a3 : (wd - U + 7).tmod 7 = M := by rw [Int.tmod_eq_emod_of_nonneg (by omega), hM]
  have a4 : wrap64 M = M := wrap_in (InI.mk (by omega) (by omega))
  have a5 : wrap64 (o + M) = o + M := wrap_in (InI.mk (by omega) (by omega))
  have a6 : wrap64 (nn - 1) = nn - 1 := wrap_in (InI.mk (by omega) (by omega))
  have a7 : wrap64 (7 * (nn - 1)) = 7 * (nn - 1) := wrap_in (InI.mk (by omega) (by omega))
  have a8 : wrap64 (o + M + 7 * (nn - 1)) = o + M + 7 * (nn - 1) := wrap_in (InI.mk (by omega) (by omega))
  go_quiet ((go_at_call 75; exact Calls.quiet_of_same (C1.out _ _)))
  have hb4 : Below w.heap.size w (w3.drewN nq) := belowN (thenB HB.out HB3.out) nq
  have k4 : (w3.drewN nq).cell? ⟨w.heap.size, 4, none⟩ = some (.int .i64 nn) := by simpa using g4
  have k5 : (w3.drewN nq).cell? ⟨w.heap.size, 5, none⟩ = some (.int .i64 wd) := by simpa using g5
  obtain ⟨w4, hw4⟩ : ∃ w4, w3.drewN nq = w4 := ⟨_, rfl⟩
  rw [hw4] at hb4 k4 k5 ⊢
  have HB4 := Lib.hid hb4
  clear hb4 hw4 g4 g5
  clear a1 a2 a3 a4 a5 a6 a7 a8
  by_cases hn : nn < 0
  · have hN2 := HN.out
    rw [if_pos hn] at hN2
    obtain ⟨M2, hM2⟩ : ∃ M2, (V - wd + 7) % 7 = M2 := ⟨_, rfl⟩
    rw [hM2] at hN2
    have hM2b : 0 ≤ M2 ∧ M2 < 7 := by omega
    have b0 : wrap64 (o + len) = o + len := wrap_in (InI.mk (by omega) (by omega))
    have b0' : wrap64 (o + len - 1) = o + len - 1 := wrap_in (InI.mk (by omega) (by omega))
    have b1 : wrap64 (V - wd) = V - wd := wrap_in (InI.mk (by omega) (by omega))
    have b2 : wrap64 (V - wd + 7) = V - wd + 7 := wrap_in (InI.mk (by omega) (by omega))
    have b3 : (V - wd + 7).tmod 7 = M2 := by rw [Int.tmod_eq_emod_of_nonneg (by omega), hM2]
    have b4 : wrap64 M2 = M2 := wrap_in (InI.mk (by omega) (by omega))
    have b5 : wrap64 (o + len - 1 - M2) = o + len - 1 - M2 := wrap_in (InI.mk (by omega) (by omega))
    have b6 : wrap64 (nn + 1) = nn + 1 := wrap_in (InI.mk (by omega) (by omega))
    have b7 : wrap64 (7 * (nn + 1)) = 7 * (nn + 1) := wrap_in (InI.mk (by omega) (by omega))
    have b8 : wrap64 (o + len - 1 - M2 + 7 * (nn + 1)) = o + len - 1 - M2 + 7 * (nn + 1) := wrap_in (InI.mk (by omega) (by omega))
    have HN2 := Lib.hid hN2
    clear hN2 hM2 hM
    go_upto_region 6 with fail
    go_quiet ((go_at_call 75; exact Calls.quiet_of_same (C2.out _ _)))
    rw [HN2.out]
    replace HB4 : Hid (Below w.heap.size w (w4.drewN nq)) := Lib.hid (belowN HB4.out nq)
    clear b0 b0' b1 b2 b3 b4 b5 b6 b7 b8 k4 k5
    have h1' : wrap64 (o + len) = o + len := wrap_in (InI.mk (by omega) (by omega))
    by_cases d1 : R < o
    · have hE : ∀ t, t ∈ ([] : List Int) ↔ P t := fun t => by rw [HON.out t]; simp; omega
      have HE := Lib.hid hE
      clear hE
      go_wp2_with fail
      go_ret
      first | exact ⟨_, [], rfl, IntL.nil _ _, by simp, HE.out, HB4.out⟩ | exact ⟨_, rfl, [], IntL.nil _ _, by simp, HE.out, HB4.out⟩
    · by_cases d2 : o + len ≤ R
      · have hE : ∀ t, t ∈ ([] : List Int) ↔ P t := fun t => by rw [HON.out t]; simp; omega
        have HE := Lib.hid hE
        clear hE
        go_wp2_with fail
        go_ret
        first | exact ⟨_, [], rfl, IntL.nil _ _, by simp, HE.out, HB4.out⟩ | exact ⟨_, rfl, [], IntL.nil _ _, by simp, HE.out, HB4.out⟩
      · have hE : ∀ t, t ∈ ([R] : List Int) ↔ P t := fun t => by rw [HON.out t]; simp; omega
        have HE := Lib.hid hE
        clear hE
        go_wp2_with fail
        go_ret
        first | exact ⟨_, [R], rfl, IntL.one _ HB4.out.size R, by simp, HE.out, HB4.out.alloc HB4.out.size _⟩ | exact ⟨_, rfl, [R], IntL.one _ HB4.out.size R, by simp, HE.out, HB4.out.alloc HB4.out.size _⟩
  · have hN2 := HN.out
    rw [if_neg hn, hM] at hN2
    rw [hN2]
    clear hN2 hM
    have h1' : wrap64 (o + len) = o + len := wrap_in (InI.mk (by omega) (by omega))
    by_cases d1 : R < o
    · have hE : ∀ t, t ∈ ([] : List Int) ↔ P t := fun t => by rw [HON.out t]; simp; omega
      have HE := Lib.hid hE
      clear hE
      go_wp2_with fail
      go_ret
      first | exact ⟨_, [], rfl, IntL.nil _ _, by simp, HE.out, HB4.out⟩ | exact ⟨_, rfl, [], IntL.nil _ _, by simp, HE.out, HB4.out⟩
    · by_cases d2 : o + len ≤ R
      · have hE : ∀ t, t ∈ ([] : List Int) ↔ P t := fun t => by rw [HON.out t]; simp; omega
        have HE := Lib.hid hE
        clear hE
        go_wp2_with fail
        go_ret
        first | exact ⟨_, [], rfl, IntL.nil _ _, by simp, HE.out, HB4.out⟩ | exact ⟨_, rfl, [], IntL.nil _ _, by simp, HE.out, HB4.out⟩
      · have hE : ∀ t, t ∈ ([R] : List Int) ↔ P t := fun t => by rw [HON.out t]; simp; omega
        have HE := Lib.hid hE
        clear hE
        go_wp2_with fail
        go_ret
        first | exact ⟨_, [R], rfl, IntL.one _ HB4.out.size R, by simp, HE.out, HB4.out.alloc HB4.out.size _⟩ | exact ⟨_, rfl, [R], IntL.one _ HB4.out.size R, by simp, HE.out, HB4.out.alloc HB4.out.size _⟩
end Go.Proofs.YtbgcccfgcdkmdaaGreatDoor
