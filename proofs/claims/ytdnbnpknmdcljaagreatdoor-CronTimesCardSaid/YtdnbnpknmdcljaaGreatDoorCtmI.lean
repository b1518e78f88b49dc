/- The document's cronDay. -/
import Derived.Test.YtdnbnpknmdcljaaGreatDoorCtmH
import Derived.Test.YtdnbnpknmdcljaaGreatDoorSched
namespace Go.Proofs.YtdnbnpknmdcljaaGreatDoor
open Go.RowKit
theorem any_take {l : List Int} {f : Int → Bool} {k : Nat} (h : k < l.length) : (l.take (k + 1)).any f = ((l.take k).any f || f (l.getD k 0)) := by
  rw [List.take_succ_eq_append_getElem h, List.any_append, List.getD, List.getElem?_eq_getElem h]
  simp
theorem any_takeP {l : List (Int × Int)} {f : Int × Int → Bool} {k : Nat} (h : k < l.length) : (l.take (k + 1)).any f = ((l.take k).any f || f (l.getD k (0, 0))) := by
  rw [List.take_succ_eq_append_getElem h, List.any_append, List.getD, List.getElem?_eq_getElem h]
  simp
/-- What fits answers, of any judgement. -/
def FitQ (FP : Bool → Prop) (w : World) (e : Ending) (w' : World) : Prop := ∃ b, e = .returned (.bool b) ∧ FP b ∧ Below w.heap.size w w'
theorem fitS_eq (c : Cron) (n : Int) (w : World) : FitS c n w = FitQ (FitP c n) w := rfl
/-- What the document asks of an N-th day. -/
def nthK (d x : Int) (p : Int × Int) : Bool := decide (p.2 = x) && (decide (7 * (p.1 - 1) < d) && decide (d ≤ 7 * p.1))
theorem nth_any {l : List (Int × Int)} {d x : Int} (_h : 1 ≤ d) : l.any (nthK d x) = decide (((d - 1) / 7 + 1, x) ∈ l) := by
  rw [Bool.eq_iff_iff, List.any_eq_true, decide_eq_true_eq]
  constructor
  · rintro ⟨⟨a, b⟩, hm, hk⟩
    simp only [nthK, Bool.and_eq_true, decide_eq_true_eq] at hk
    obtain ⟨rfl, h1, h2⟩ := hk
    have : (d - 1) / 7 + 1 = a := by omega
    rw [this]
    exact hm
  · intro hm
    refine ⟨_, hm, ?_⟩
    simp only [nthK, Bool.and_eq_true, decide_eq_true_eq]
    refine ⟨trivial, ?_, ?_⟩ <;> omega
set_option maxRecDepth 100000 in
set_option maxHeartbeats 16000000 in
theorem cronDay_any (c : Cron) (v0 v1 v2 v4 v6 v8 v9 v10 : Value) (n : Int) (w : World) (h : CronR w c v0 v1 v2 v4 v6 v8 v9 v10) (hz : CronZ c) (hg : CronG c) (n1 : -4000000 ≤ n) (n2 : n ≤ 4000000) :
    Calls Tryz.prog 13 #[cronV c v0 v1 v2 v4 v6 v8 v9 v10, .int .i64 n] w (FitS c n w) := by
  have CO : Hid (∀ w0, Calls Tryz.prog 25 #[.int .i64 n] w0 fun e w' => ∃ y m d, e = .returned (.agg #[.int .i64 1, .int .i64 y, .int .i64 m, .int .i64 d]) ∧ Dm.Valid 1 y m d ∧ Dm.dayOf 1 y m d = n ∧ Below w0.heap.size w0 w') := Lib.hid fun w0 => (greg_any n w0).mono fun e w' ⟨a, y, m, d, he, hR, hb'⟩ => by
    obtain ⟨rfl, h3, h4⟩ := ofR_in hR n1 n2
    exact ⟨y, m, d, he, h3, h4, hb'⟩
  have CM : Hid (∀ w0 x, Below w.heap.size w w0 → Calls Tryz.prog 12 #[v2, .int .i64 x] w0 fun e w' => e = .returned (.bool (decide (x ∈ c.mo))) ∧ w0 = w') := Lib.hid fun w0 x hb => (memberI_any v2 c.mo x w0 (h.call hb).mo hz.mo).mono fun _ _ ⟨e1, e2⟩ => ⟨e1, e2.symm⟩
  have C4 : Hid (∀ w0 x, Below w.heap.size w w0 → Calls Tryz.prog 12 #[v4, .int .i64 x] w0 fun e w' => e = .returned (.bool (decide (x ∈ c.da))) ∧ w0 = w') := Lib.hid fun w0 x hb => (memberI_any v4 c.da x w0 (h.call hb).da hz.da).mono fun _ _ ⟨e1, e2⟩ => ⟨e1, e2.symm⟩
  have C8 : Hid (∀ w0 x, Below w.heap.size w w0 → Calls Tryz.prog 12 #[v8, .int .i64 x] w0 fun e w' => e = .returned (.bool (decide (x ∈ c.wd))) ∧ w0 = w') := Lib.hid fun w0 x hb => (memberI_any v8 c.wd x w0 (h.call hb).wd hz.wd).mono fun _ _ ⟨e1, e2⟩ => ⟨e1, e2.symm⟩
  have C9 : Hid (∀ w0 x, Below w.heap.size w w0 → Calls Tryz.prog 12 #[v9, .int .i64 x] w0 fun e w' => e = .returned (.bool (decide (x ∈ c.lo))) ∧ w0 = w') := Lib.hid fun w0 x hb => (memberI_any v9 c.lo x w0 (h.call hb).lo hz.lo).mono fun _ _ ⟨e1, e2⟩ => ⟨e1, e2.symm⟩
  have HF : Hid (∀ y m d b, Dm.Valid 1 y m d → Dm.dayOf 1 y m d = n → b = dayB c n m d (Dm.length 1 y m) → FitP c n b) := Lib.hid fun y m d b h1 h2 h3 => ⟨y, m, d, h1, h2, h3⟩
  have HD : Hid (∀ m d L, 1 ≤ d → dayB c n m d L = (decide (m ∈ c.mo) && (if c.any then (c.aw || (decide (Dm.wd n ∈ c.wd) || (decide (Dm.wd n ∈ c.lo) && decide (L < d + 7)) || c.nt.any (nthK d (Dm.wd n)))) else if c.aw then (decide (d ∈ c.da) || (c.la && decide (d = L)) || c.ne.any (nearK n d L)) else (decide (d ∈ c.da) || (c.la && decide (d = L)) || c.ne.any (nearK n d L)) || (decide (Dm.wd n ∈ c.wd) || (decide (Dm.wd n ∈ c.lo) && decide (L < d + 7)) || c.nt.any (nthK d (Dm.wd n)))))) := Lib.hid fun m d L hd => by
    rw [nth_any hd]
    rfl
  have HGd := Lib.hid hg
  have HPne := Lib.hid h.ne
  have HPnt := Lib.hid h.nt
  have lne := short_of hg.ne (by omega)
  have lnt := nth_len hg.nt
  clear hz hg
  obtain ⟨o0, p0, hv0, -, -⟩ := id h.mi
  obtain ⟨n0, hn0⟩ : ∃ n, c.mi.length = n := ⟨_, rfl⟩
  rw [hn0] at hv0
  subst hv0
  obtain ⟨o1, p1, hv1, -, -⟩ := id h.ho
  obtain ⟨n1, hn1⟩ : ∃ n, c.ho.length = n := ⟨_, rfl⟩
  rw [hn1] at hv1
  subst hv1
  obtain ⟨o2, p2, hv2, -, -⟩ := id h.mo
  obtain ⟨n2, hn2⟩ : ∃ n, c.mo.length = n := ⟨_, rfl⟩
  rw [hn2] at hv2
  subst hv2
  obtain ⟨o4, p4, hv4, -, -⟩ := id h.da
  obtain ⟨n4, hn4⟩ : ∃ n, c.da.length = n := ⟨_, rfl⟩
  rw [hn4] at hv4
  subst hv4
  obtain ⟨o6, p6, hv6, -, -⟩ := id h.ne
  obtain ⟨n6, hn6⟩ : ∃ n, c.ne.length = n := ⟨_, rfl⟩
  rw [hn6] at hv6
  subst hv6
  obtain ⟨o8, p8, hv8, -, -⟩ := id h.wd
  obtain ⟨n8, hn8⟩ : ∃ n, c.wd.length = n := ⟨_, rfl⟩
  rw [hn8] at hv8
  subst hv8
  obtain ⟨o9, p9, hv9, -, -⟩ := id h.lo
  obtain ⟨n9, hn9⟩ : ∃ n, c.lo.length = n := ⟨_, rfl⟩
  rw [hn9] at hv9
  subst hv9
  obtain ⟨o10, p10, hv10, -, -⟩ := id h.nt
  obtain ⟨n10, hn10⟩ : ∃ n, c.nt.length = n := ⟨_, rfl⟩
  rw [hn10] at hv10
  subst hv10
  obtain ⟨A, hA⟩ : ∃ x, c.any = x := ⟨_, rfl⟩
  obtain ⟨La, hLa⟩ : ∃ x, c.la = x := ⟨_, rfl⟩
  obtain ⟨Aw, hAw⟩ : ∃ x, c.aw = x := ⟨_, rfl⟩
  rw [hn6] at lne
  rw [hn10] at lnt
  have HN6 := Lib.hid hn6
  have HN10 := Lib.hid hn10
  obtain ⟨FP, hFP⟩ : ∃ x, FitP c n = x := ⟨_, rfl⟩
  obtain ⟨DB, hDB⟩ : ∃ x, dayB c n = x := ⟨_, rfl⟩
  rw [fitS_eq, hFP]
  rw [hFP] at HF
  rw [hDB] at HF HD
  rw [hA, hLa, hAw] at HD
  unfold cronV
  rw [hA, hLa, hAw]
  clear hA hLa hAw hn0 hn1 hn2 hn4 hn6 hn8 hn9 hn10 h hFP hDB
  obtain ⟨wB, hwB⟩ : ∃ x, w.alloc (.cells #[.slice o0 n0 p0, .slice o1 n1 p1, .slice o2 n2 p2, .bool A, .slice o4 n4 p4, .bool La, .slice o6 n6 p6, .bool Aw, .slice o8 n8 p8, .slice o9 n9 p9, .slice o10 n10 p10] 25) = x := ⟨_, rfl⟩
  have HBB : Hid (Below w.heap.size w wB) := Lib.hid (by rw [← hwB]; exact (Below.refl _ _).alloc (Nat.le_refl _) _)
  have hlt : w.heap.size < wB.heap.size := by rw [← hwB]; simp
  have HQ0 : Hid (wB.cell? ⟨w.heap.size, 0, none⟩ = some (.slice o0 n0 p0)) := Lib.hid (by rw [← hwB]; simp)
  have HQ1 : Hid (wB.cell? ⟨w.heap.size, 1, none⟩ = some (.slice o1 n1 p1)) := Lib.hid (by rw [← hwB]; simp)
  have HQ2 : Hid (wB.cell? ⟨w.heap.size, 2, none⟩ = some (.slice o2 n2 p2)) := Lib.hid (by rw [← hwB]; simp)
  have HQ3 : Hid (wB.cell? ⟨w.heap.size, 3, none⟩ = some (.bool A)) := Lib.hid (by rw [← hwB]; simp)
  have HQ4 : Hid (wB.cell? ⟨w.heap.size, 4, none⟩ = some (.slice o4 n4 p4)) := Lib.hid (by rw [← hwB]; simp)
  have HQ5 : Hid (wB.cell? ⟨w.heap.size, 5, none⟩ = some (.bool La)) := Lib.hid (by rw [← hwB]; simp)
  have HQ6 : Hid (wB.cell? ⟨w.heap.size, 6, none⟩ = some (.slice o6 n6 p6)) := Lib.hid (by rw [← hwB]; simp)
  have HQ7 : Hid (wB.cell? ⟨w.heap.size, 7, none⟩ = some (.bool Aw)) := Lib.hid (by rw [← hwB]; simp)
  have HQ8 : Hid (wB.cell? ⟨w.heap.size, 8, none⟩ = some (.slice o8 n8 p8)) := Lib.hid (by rw [← hwB]; simp)
  have HQ9 : Hid (wB.cell? ⟨w.heap.size, 9, none⟩ = some (.slice o9 n9 p9)) := Lib.hid (by rw [← hwB]; simp)
  have HQ10 : Hid (wB.cell? ⟨w.heap.size, 10, none⟩ = some (.slice o10 n10 p10)) := Lib.hid (by rw [← hwB]; simp)
  have HwB := Lib.hid hwB
  clear hwB
  have HB0 := Lib.hid ((Below.refl w.heap.size w).alloc (Nat.le_refl _) (.cells #[.slice o0 n0 p0, .slice o1 n1 p1, .slice o2 n2 p2, .bool A, .slice o4 n4 p4, .bool La, .slice o6 n6 p6, .bool Aw, .slice o8 n8 p8, .slice o9 n9 p9, .slice o10 n10 p10] 25))
  go_enter Tryz.func13, Tryz.ntmps13
  go_upto_region 2 with (go_at_call 25; (with_reducible refine (CO.out _).mono ?_); rintro e w1 ⟨y, m, d, rfl, hv, hd, hb1⟩; rw [HwB.out] at hb1; have HV := Lib.hid hv; have HDy := Lib.hid hd; have HB1 := Lib.hid hb1; clear hv hd hb1)
  obtain ⟨wA, hwA⟩ : ∃ x, w1.alloc (.cells #[.int .i64 1, .int .i64 y, .int .i64 m, .int .i64 d] 48) = x := ⟨_, rfl⟩
  have HA : Hid (Below wB.heap.size wB wA) := Lib.hid (by rw [← hwA]; exact HB1.out.alloc HB1.out.size _)
  have hd1 : wA.cell? ⟨w1.heap.size, 1, none⟩ = some (.int .i64 y) := by rw [← hwA]; simp
  have hd2 : wA.cell? ⟨w1.heap.size, 2, none⟩ = some (.int .i64 m) := by rw [← hwA]; simp
  have hd3 : wA.cell? ⟨w1.heap.size, 3, none⟩ = some (.int .i64 d) := by rw [← hwA]; simp
  have hl1 : w1.heap.size < wA.heap.size := by rw [← hwA]; simp
  have c2 := (HA.out.cell (p := ⟨w.heap.size, 2, none⟩) hlt).trans HQ2.out
  have HWA := Lib.hid (HBB.out.trans (HA.out.mono HBB.out.size))
  have HWA' := HA.out.size
  rw [hwA]
  clear hwA HB1
  obtain ⟨D, hD⟩ : ∃ D, w1.heap.size = D := ⟨_, rfl⟩
  rw [hD] at hd1 hd2 hd3 hl1 ⊢
  obtain ⟨b1, b2, b3, b4, b5, b6⟩ := greg_bd HV.out
  obtain ⟨Bm, hBm⟩ : ∃ B, decide (m ∈ c.mo) = B := ⟨_, rfl⟩
  have CM2 : Hid (Calls Tryz.prog 12 #[.slice o2 n2 p2, .int .i64 m] wA fun e w' => e = .returned (.bool Bm) ∧ wA = w') := Lib.hid (hBm ▸ CM.out wA m HWA.out)
  obtain ⟨L, hL⟩ : ∃ L, Dm.length 1 y m = L := ⟨_, rfl⟩
  obtain ⟨x, hx⟩ : ∃ x, Dm.wd n = x := ⟨_, rfl⟩
  have HDm : Hid (∀ b, b = (Bm && (if A then (Aw || (decide (x ∈ c.wd) || (decide (x ∈ c.lo) && decide (L < d + 7)) || c.nt.any (nthK d x))) else if Aw then (decide (d ∈ c.da) || (La && decide (d = L)) || c.ne.any (nearK n d L)) else (decide (d ∈ c.da) || (La && decide (d = L)) || c.ne.any (nearK n d L)) || (decide (x ∈ c.wd) || (decide (x ∈ c.lo) && decide (L < d + 7)) || c.nt.any (nthK d x)))) → FP b) := Lib.hid fun b hb => HF.out y m d b HV.out HDy.out (by rw [hL, HD.out m d L b5, hBm, hx]; exact hb)
  clear hD hBm CM HD HF
  cases Bm with
  | false =>
    have HR : Hid (FP false) := Lib.hid (HDm.out false rfl)
    go_wp2_with (go_at_call 12; (with_reducible refine CM2.out.mono ?_); rintro e w2 ⟨rfl, rfl⟩)
    go_ret
    exact ⟨false, rfl, HR.out, HWA.out⟩
  | true =>
    go_upto_region 4 with (go_at_call 12; (with_reducible refine CM2.out.mono ?_); rintro e w2 ⟨rfl, rfl⟩)
    obtain ⟨k0, hk0⟩ : ∃ k : Nat, m = (k : Int) + 1 := ⟨(m - 1).toNat, by omega⟩
    have hk12 : k0 < 12 := by omega
    have hm1 : IntKind.i64.wrap (m - 1) = (k0 : Int) := by rw [hk0, show (k0 : Int) + 1 - 1 = (k0 : Int) by omega]; exact IntWalk.i64_in _ (by omega)
    have hk1 : (0 : Int) ≤ (k0 : Int) := by omega
    have hk2 : (k0 : Int) < 12 := by omega
    have CLn : Hid (∀ w0, Calls Tryz.prog 26 #[.int .i64 1, .int .i64 y] w0 fun e w' => ∃ (B cap : Nat), e = .returned (.slice (some ⟨B, 0, none⟩) 12 cap) ∧ w'.cell? ⟨B, k0, none⟩ = some (.int .i64 L) ∧ Below w0.heap.size w0 w') := Lib.hid fun w0 => (Lengths_plain 1 y w0 (by decide) (by decide) (by decide) (by omega) (by omega)).mono fun e w' ⟨B, nl, cap, he, hnl, _, _, hc, hb⟩ => by
      rw [Dm.greg12] at hnl
      obtain rfl : nl = 12 := by omega
      have hcc := hc k0 hk12
      rw [← hk0, hL] at hcc
      exact ⟨B, cap, he, hcc, hb⟩
    have HS : Hid (∀ wx, Below wA.heap.size wA wx → wx.cell? ⟨D, 1, none⟩ = some (.int .i64 y) ∧ wx.cell? ⟨D, 2, none⟩ = some (.int .i64 m)) := Lib.hid fun wx hb => ⟨(hb.cell (p := ⟨D, 1, none⟩) hl1).trans hd1, (hb.cell (p := ⟨D, 2, none⟩) hl1).trans hd2⟩
    have HX := Lib.hid (below_drew (Below.refl wA.heap.size wA))
    have HD3 := Lib.hid hd3
    clear hL hk0 hk12 hd1 hd2 hd3 c2
    refine sched_few (S := fun w' => w'.cell? ⟨D, 1, none⟩ = some (.int .i64 y) ∧ w'.cell? ⟨D, 2, none⟩ = some (.int .i64 m)) [(0, true, [false, false, false, false, false, false, false, false, false]), (1, true, [true, false, false, false, false, false, false, false, false]), (3, true, [true, true, false, false, false, false, false, false, false]), (4, true, [true, true, false, true, false, false, false, false, false]), (5, true, [true, true, false, true, true, false, false, false, false]), (2, false, [true, true, false, true, true, true, false, false, false]), (6, true, [true, true, true, true, true, true, false, false, false]), (7, false, [true, true, true, true, true, true, true, false, false]), (8, true, [true, true, true, true, true, true, true, true, false])] [(0, true), (1, true), (3, true), (4, true), (5, true), (2, false), (6, true), (7, false), (8, true)] (by kernel_rfl) (by kernel_rfl) rfl (by kernel_rfl) (by kernel_rfl) (by kernel_rfl) rfl (HS.out _ HX.out) (fun hHeld => ?_)
    clear hHeld
    refine sched_ql (v := ?_) rfl (by rfl) ?_ ?_
    rotate_left
    · (intro w hSw; (try dsimp only at hSw); go_simp; (try with_reducible rfl))
    try simp only [Act.put, List.setIfInBounds_toArray, List.set_cons_zero, List.set_cons_succ]
    refine sched_ql (v := ?_) rfl (by rfl) ?_ ?_
    rotate_left
    · (intro w hSw; (try dsimp only at hSw); go_simp; (try with_reducible rfl))
    try simp only [Act.put, List.setIfInBounds_toArray, List.set_cons_zero, List.set_cons_succ]
    refine sched_ql (v := ?_) rfl (by rfl) ?_ ?_
    rotate_left
    · (intro w hSw; (try dsimp only at hSw); go_simp; (try with_reducible rfl))
    try simp only [Act.put, List.setIfInBounds_toArray, List.set_cons_zero, List.set_cons_succ]
    refine sched_ql (v := ?_) rfl (by rfl) ?_ ?_
    rotate_left
    · (intro w hSw; (try dsimp only at hSw); go_simp; (try with_reducible rfl))
    try simp only [Act.put, List.setIfInBounds_toArray, List.set_cons_zero, List.set_cons_succ]
    refine sched_ql (v := ?_) rfl (by rfl) ?_ ?_
    rotate_left
    · (intro w hSw; (try dsimp only at hSw); go_simp; (try with_reducible rfl))
    try simp only [Act.put, List.setIfInBounds_toArray, List.set_cons_zero, List.set_cons_succ]
    refine sched_cl rfl (fun K hK => ?_)
    go_simp
    go_at_call 26
    refine (CLn.out _).mono ?_
    rintro e w3 ⟨B, cap, rfl, hcc, hb3⟩
    replace HX := Lib.hid (HX.out.trans (hb3.mono HX.out.size))
    clear hb3
    try dsimp only
    refine hK.out _ _ (HS.out _ HX.out) (fun hHeld => ?_)
    clear hK K hHeld
    try simp only [Act.put, List.setIfInBounds_toArray, List.set_cons_zero, List.set_cons_succ]
    refine sched_ql (v := ?_) rfl (by rfl) ?_ ?_
    rotate_left
    · (intro w hSw; (try dsimp only at hSw); go_simp; (try with_reducible rfl))
    try simp only [Act.put, List.setIfInBounds_toArray, List.set_cons_zero, List.set_cons_succ]
    refine sched_cl rfl (fun K hK => ?_)
    go_simp
    refine hK.out _ _ (HS.out _ HX.out) (fun hHeld => ?_)
    clear hK K hHeld
    try simp only [Act.put, List.setIfInBounds_toArray, List.set_cons_zero, List.set_cons_succ]
    refine sched_ql (v := ?_) rfl (by rfl) ?_ ?_
    rotate_left
    · (intro w hSw; (try dsimp only at hSw); go_simp; (try with_reducible rfl))
    try simp only [Act.put, List.setIfInBounds_toArray, List.set_cons_zero, List.set_cons_succ]
    unfold wpSched NoPanic
    have HW3 : Hid (Below wB.heap.size wB w3) := Lib.hid (HA.out.trans (HX.out.mono HWA'))
    have HWW := Lib.hid (HBB.out.trans (HW3.out.mono HBB.out.size))
    have hD3 := (HX.out.cell (p := ⟨D, 3, none⟩) hl1).trans HD3.out
    have hlD := Nat.lt_of_lt_of_le hl1 HX.out.size
    have hlw := Nat.lt_of_lt_of_le hlt HW3.out.size
    have k4 := (HW3.out.cell (p := ⟨w.heap.size, 4, none⟩) hlt).trans HQ4.out
    have k5 := (HW3.out.cell (p := ⟨w.heap.size, 5, none⟩) hlt).trans HQ5.out
    clear hcc
    obtain ⟨B4, hB4⟩ : ∃ B, decide (d ∈ c.da) = B := ⟨_, rfl⟩
    have C42 : Hid (Calls Tryz.prog 12 #[.slice o4 n4 p4, .int .i64 d] w3 fun e w' => e = .returned (.bool B4) ∧ w3 = w') := Lib.hid (hB4 ▸ C4.out w3 d HWW.out)
    obtain ⟨M0, hM0⟩ : ∃ M0, (B4 || (La && decide (d = L))) = M0 := ⟨_, rfl⟩
    have HDm2 : Hid (∀ b, b = (if A then (Aw || (decide (x ∈ c.wd) || (decide (x ∈ c.lo) && decide (L < d + 7)) || c.nt.any (nthK d x))) else if Aw then (M0 || c.ne.any (nearK n d L)) else (M0 || c.ne.any (nearK n d L)) || (decide (x ∈ c.wd) || (decide (x ∈ c.lo) && decide (L < d + 7)) || c.nt.any (nthK d x))) → FP b) := Lib.hid fun b hb => HDm.out b (by rw [hB4, hM0, Bool.true_and]; exact hb)
    have HM0 := Lib.hid hM0
    clear hB4 hM0 HDm C4
    go_upto_region 5 with fail
    go_cut [0, 7] from 31 to 45 (fun _ s7 wx => s7 = .bool M0 ∧ wx = w3)
    case first =>
      cases B4 with
      | true =>
        have HE : Hid (true = M0) := Lib.hid (by rw [← HM0.out]; rfl)
        go_wp2_with (go_at_call 12; (with_reducible refine C42.out.mono ?_); rintro e w4 ⟨rfl, rfl⟩)
        go_meet
        case rel => exact ⟨by rw [HE.out], rfl⟩
      | false =>
        cases La with
        | true =>
          by_cases hd : d = L
          · have HE : Hid (true = M0) := Lib.hid (by rw [← HM0.out, decide_eq_true hd]; rfl)
            have hb : (d == L) = true := by simpa using hd
            clear hd
            go_wp2_with (go_at_call 12; (with_reducible refine C42.out.mono ?_); rintro e w4 ⟨rfl, rfl⟩)
            go_meet
            case rel => exact ⟨by rw [HE.out], rfl⟩
          · have HE : Hid (false = M0) := Lib.hid (by rw [← HM0.out, decide_eq_false hd]; rfl)
            have hb : (d == L) = false := by simpa using hd
            clear hd
            go_wp2_with (go_at_call 12; (with_reducible refine C42.out.mono ?_); rintro e w4 ⟨rfl, rfl⟩)
            go_meet
            case rel => exact ⟨by rw [HE.out], rfl⟩
        | false =>
          have HE : Hid (false = M0) := Lib.hid (by rw [← HM0.out]; rfl)
          go_wp2_with (go_at_call 12; (with_reducible refine C42.out.mono ?_); rintro e w4 ⟨rfl, rfl⟩)
          go_meet
          case rel => exact ⟨by rw [HE.out], rfl⟩
    case rest =>
      obtain ⟨rfl, hwc⟩ := hcut
      have hwd := hwc.symm
      subst hwd
      clear hwc
      clear C42 k4 k5 HM0
      have k6 := (HW3.out.cell (p := ⟨w.heap.size, 6, none⟩) hlt).trans HQ6.out
      go_wp2_with fail
      go_loop [7, 49] (fun s7 s49 => ∃ (k : Nat) (b : Bool), s49 = .int .i64 (k : Int) ∧ s7 = .bool b ∧ k ≤ n6 ∧ Hid (b = (M0 || (c.ne.take k).any (nearK n d L)))) (fun _ s => n6 - (intOf s).toNat)
      case atStart => exact ⟨0, M0, rfl, rfl, by omega, Lib.hid (by simp)⟩
      case round =>
        obtain ⟨k, b, rfl, rfl, hk, HBk⟩ := hrel
        by_cases hkn : k < n6
        · have hkl : k < c.ne.length := by rw [HN6.out]; exact hkn
          obtain ⟨ad, rfl, hce⟩ := (HPne.out.call HWW.out).at hkl
          have hra := ris_at HGd.out.ne k hkl
          unfold RisAt at hra
          have HAT := Lib.hid (any_take (f := nearK n d L) hkl)
          obtain ⟨X, hX⟩ : ∃ X, c.ne.getD k 0 = X := ⟨_, rfl⟩
          rw [hX] at hce hra HAT
          obtain ⟨a1, a2, -⟩ := hra
          have HNx : Hid (∀ q, nearK n d L X = q → (b || q) = (M0 || (c.ne.take (k + 1)).any (nearK n d L))) := Lib.hid fun q hq => by rw [HAT.out, hq, HBk.out, Bool.or_assoc]
          clear hX hkl HAT
          by_cases hXL : L < X
          · have HB2 : Hid (b = (M0 || (c.ne.take (k + 1)).any (nearK n d L))) := Lib.hid (by
              have := HNx.out false (by unfold nearK; rw [decide_eq_false (by omega)]; rfl)
              rwa [Bool.or_false] at this)
            go_wp2_with fail
            go_round
            case rel => exact ⟨k + 1, b, by go_num, rfl, by omega, HB2⟩
            case measure => simp [intOf]; omega
          · have hdL : decide (L < X) = false := decide_eq_false hXL
            have CWk : Hid (∀ w0, Calls Tryz.prog 27 #[.int .i64 (n - d + X)] w0 fun e w' => e = .returned (.int .i64 (Dm.wd (n - d + X))) ∧ w0 = w') := Lib.hid fun w0 => refWeekday_any _ w0
            obtain ⟨W, hW⟩ : ∃ W, Dm.wd (n - d + X) = W := ⟨_, rfl⟩
            rw [hW] at CWk
            have HNz : Hid (∀ z, nearI X L W = z → (b || decide (d = z)) = (M0 || (c.ne.take (k + 1)).any (nearK n d L))) := Lib.hid fun z hz => HNx.out _ (by unfold nearK; rw [hW, hz, decide_eq_true (by omega), Bool.true_and])
            clear hW HNx HBk hXL
            by_cases h6 : W = 6
            · subst h6
              by_cases hx1 : X = 1
              · subst hx1
                have HNq := Lib.hid (HNz.out (3) (by simp [nearI]))
                cases b with
                | true =>
                  have HB2 : Hid (true = (M0 || (c.ne.take (k + 1)).any (nearK n d L))) := Lib.hid (by have := HNq.out; rwa [Bool.true_or] at this)
                  go_wp2_with (go_at_call 27; (with_reducible refine (CWk.out _).mono ?_); rintro e w4 ⟨rfl, rfl⟩)
                  go_round
                  case rel => first | exact ⟨k + 1, true, by go_num, rfl, by omega, HB2⟩ | ((repeat apply Exists.intro); exact ⟨⟨k + 1, true, by go_num, rfl, by omega, HB2⟩, rfl⟩)
                  case measure => simp [intOf]; omega
                | false =>
                  by_cases hzd : (3) = d
                  · have HB2 : Hid (true = (M0 || (c.ne.take (k + 1)).any (nearK n d L))) := Lib.hid (by have := HNq.out; rwa [decide_eq_true hzd.symm, Bool.false_or] at this)
                    have hb : ((3) == d) = true := by simpa using hzd
                    clear hzd
                    go_wp2_with (go_at_call 27; (with_reducible refine (CWk.out _).mono ?_); rintro e w4 ⟨rfl, rfl⟩)
                    go_round
                    case rel => first | exact ⟨k + 1, true, by go_num, rfl, by omega, HB2⟩ | ((repeat apply Exists.intro); exact ⟨⟨k + 1, true, by go_num, rfl, by omega, HB2⟩, rfl⟩)
                    case measure => simp [intOf]; omega
                  · have HB2 : Hid (false = (M0 || (c.ne.take (k + 1)).any (nearK n d L))) := Lib.hid (by have := HNq.out; rwa [decide_eq_false (fun h => hzd h.symm), Bool.false_or] at this)
                    have hb : ((3) == d) = false := by simpa using hzd
                    clear hzd
                    go_wp2_with (go_at_call 27; (with_reducible refine (CWk.out _).mono ?_); rintro e w4 ⟨rfl, rfl⟩)
                    go_round
                    case rel => first | exact ⟨k + 1, false, by go_num, rfl, by omega, HB2⟩ | ((repeat apply Exists.intro); exact ⟨⟨k + 1, false, by go_num, rfl, by omega, HB2⟩, rfl⟩)
                    case measure => simp [intOf]; omega
              · have hb1 : (X == 1) = false := by simpa using hx1
                have HNq := Lib.hid (HNz.out (X - 1) (by unfold nearI; rw [if_pos rfl, if_pos (by omega)]))
                cases b with
                | true =>
                  have HB2 : Hid (true = (M0 || (c.ne.take (k + 1)).any (nearK n d L))) := Lib.hid (by have := HNq.out; rwa [Bool.true_or] at this)
                  go_wp2_with (go_at_call 27; (with_reducible refine (CWk.out _).mono ?_); rintro e w4 ⟨rfl, rfl⟩)
                  go_round
                  case rel => first | exact ⟨k + 1, true, by go_num, rfl, by omega, HB2⟩ | ((repeat apply Exists.intro); exact ⟨⟨k + 1, true, by go_num, rfl, by omega, HB2⟩, rfl⟩)
                  case measure => simp [intOf]; omega
                | false =>
                  by_cases hzd : (X - 1) = d
                  · have HB2 : Hid (true = (M0 || (c.ne.take (k + 1)).any (nearK n d L))) := Lib.hid (by have := HNq.out; rwa [decide_eq_true hzd.symm, Bool.false_or] at this)
                    have hb : ((X - 1) == d) = true := by simpa using hzd
                    clear hzd
                    go_wp2_with (go_at_call 27; (with_reducible refine (CWk.out _).mono ?_); rintro e w4 ⟨rfl, rfl⟩)
                    go_round
                    case rel => first | exact ⟨k + 1, true, by go_num, rfl, by omega, HB2⟩ | ((repeat apply Exists.intro); exact ⟨⟨k + 1, true, by go_num, rfl, by omega, HB2⟩, rfl⟩)
                    case measure => simp [intOf]; omega
                  · have HB2 : Hid (false = (M0 || (c.ne.take (k + 1)).any (nearK n d L))) := Lib.hid (by have := HNq.out; rwa [decide_eq_false (fun h => hzd h.symm), Bool.false_or] at this)
                    have hb : ((X - 1) == d) = false := by simpa using hzd
                    clear hzd
                    go_wp2_with (go_at_call 27; (with_reducible refine (CWk.out _).mono ?_); rintro e w4 ⟨rfl, rfl⟩)
                    go_round
                    case rel => first | exact ⟨k + 1, false, by go_num, rfl, by omega, HB2⟩ | ((repeat apply Exists.intro); exact ⟨⟨k + 1, false, by go_num, rfl, by omega, HB2⟩, rfl⟩)
                    case measure => simp [intOf]; omega
            · have hb6 : (W == 6) = false := by simpa using h6
              by_cases h7 : W = 7
              · subst h7
                by_cases hxL : X = L
                · obtain rfl : L = X := hxL.symm
                  have HNq := Lib.hid (HNz.out (L - 2) (by simp [nearI]))
                  cases b with
                  | true =>
                    have HB2 : Hid (true = (M0 || (c.ne.take (k + 1)).any (nearK n d L))) := Lib.hid (by have := HNq.out; rwa [Bool.true_or] at this)
                    go_wp2_with (go_at_call 27; (with_reducible refine (CWk.out _).mono ?_); rintro e w4 ⟨rfl, rfl⟩)
                    go_round
                    case rel => first | exact ⟨k + 1, true, by go_num, rfl, by omega, HB2⟩ | ((repeat apply Exists.intro); exact ⟨⟨k + 1, true, by go_num, rfl, by omega, HB2⟩, rfl⟩)
                    case measure => simp [intOf]; omega
                  | false =>
                    by_cases hzd : (L - 2) = d
                    · have HB2 : Hid (true = (M0 || (c.ne.take (k + 1)).any (nearK n d L))) := Lib.hid (by have := HNq.out; rwa [decide_eq_true hzd.symm, Bool.false_or] at this)
                      have hb : ((L - 2) == d) = true := by simpa using hzd
                      clear hzd
                      go_wp2_with (go_at_call 27; (with_reducible refine (CWk.out _).mono ?_); rintro e w4 ⟨rfl, rfl⟩)
                      go_round
                      case rel => first | exact ⟨k + 1, true, by go_num, rfl, by omega, HB2⟩ | ((repeat apply Exists.intro); exact ⟨⟨k + 1, true, by go_num, rfl, by omega, HB2⟩, rfl⟩)
                      case measure => simp [intOf]; omega
                    · have HB2 : Hid (false = (M0 || (c.ne.take (k + 1)).any (nearK n d L))) := Lib.hid (by have := HNq.out; rwa [decide_eq_false (fun h => hzd h.symm), Bool.false_or] at this)
                      have hb : ((L - 2) == d) = false := by simpa using hzd
                      clear hzd
                      go_wp2_with (go_at_call 27; (with_reducible refine (CWk.out _).mono ?_); rintro e w4 ⟨rfl, rfl⟩)
                      go_round
                      case rel => first | exact ⟨k + 1, false, by go_num, rfl, by omega, HB2⟩ | ((repeat apply Exists.intro); exact ⟨⟨k + 1, false, by go_num, rfl, by omega, HB2⟩, rfl⟩)
                      case measure => simp [intOf]; omega
                · have hbL : (X == L) = false := by simpa using hxL
                  have HNq := Lib.hid (HNz.out (X + 1) (by unfold nearI; rw [if_neg (by decide), if_pos rfl, if_pos (by have := of_decide_eq_false hdL; omega)]))
                  cases b with
                  | true =>
                    have HB2 : Hid (true = (M0 || (c.ne.take (k + 1)).any (nearK n d L))) := Lib.hid (by have := HNq.out; rwa [Bool.true_or] at this)
                    go_wp2_with (go_at_call 27; (with_reducible refine (CWk.out _).mono ?_); rintro e w4 ⟨rfl, rfl⟩)
                    go_round
                    case rel => first | exact ⟨k + 1, true, by go_num, rfl, by omega, HB2⟩ | ((repeat apply Exists.intro); exact ⟨⟨k + 1, true, by go_num, rfl, by omega, HB2⟩, rfl⟩)
                    case measure => simp [intOf]; omega
                  | false =>
                    by_cases hzd : (X + 1) = d
                    · have HB2 : Hid (true = (M0 || (c.ne.take (k + 1)).any (nearK n d L))) := Lib.hid (by have := HNq.out; rwa [decide_eq_true hzd.symm, Bool.false_or] at this)
                      have hb : ((X + 1) == d) = true := by simpa using hzd
                      clear hzd
                      go_wp2_with (go_at_call 27; (with_reducible refine (CWk.out _).mono ?_); rintro e w4 ⟨rfl, rfl⟩)
                      go_round
                      case rel => first | exact ⟨k + 1, true, by go_num, rfl, by omega, HB2⟩ | ((repeat apply Exists.intro); exact ⟨⟨k + 1, true, by go_num, rfl, by omega, HB2⟩, rfl⟩)
                      case measure => simp [intOf]; omega
                    · have HB2 : Hid (false = (M0 || (c.ne.take (k + 1)).any (nearK n d L))) := Lib.hid (by have := HNq.out; rwa [decide_eq_false (fun h => hzd h.symm), Bool.false_or] at this)
                      have hb : ((X + 1) == d) = false := by simpa using hzd
                      clear hzd
                      go_wp2_with (go_at_call 27; (with_reducible refine (CWk.out _).mono ?_); rintro e w4 ⟨rfl, rfl⟩)
                      go_round
                      case rel => first | exact ⟨k + 1, false, by go_num, rfl, by omega, HB2⟩ | ((repeat apply Exists.intro); exact ⟨⟨k + 1, false, by go_num, rfl, by omega, HB2⟩, rfl⟩)
                      case measure => simp [intOf]; omega
              · have hb7 : (W == 7) = false := by simpa using h7
                have HNq := Lib.hid (HNz.out (X) (by unfold nearI; rw [if_neg h6, if_neg h7]))
                cases b with
                | true =>
                  have HB2 : Hid (true = (M0 || (c.ne.take (k + 1)).any (nearK n d L))) := Lib.hid (by have := HNq.out; rwa [Bool.true_or] at this)
                  go_wp2_with (go_at_call 27; (with_reducible refine (CWk.out _).mono ?_); rintro e w4 ⟨rfl, rfl⟩)
                  go_round
                  case rel => first | exact ⟨k + 1, true, by go_num, rfl, by omega, HB2⟩ | ((repeat apply Exists.intro); exact ⟨⟨k + 1, true, by go_num, rfl, by omega, HB2⟩, rfl⟩)
                  case measure => simp [intOf]; omega
                | false =>
                  by_cases hzd : (X) = d
                  · have HB2 : Hid (true = (M0 || (c.ne.take (k + 1)).any (nearK n d L))) := Lib.hid (by have := HNq.out; rwa [decide_eq_true hzd.symm, Bool.false_or] at this)
                    have hb : ((X) == d) = true := by simpa using hzd
                    clear hzd
                    go_wp2_with (go_at_call 27; (with_reducible refine (CWk.out _).mono ?_); rintro e w4 ⟨rfl, rfl⟩)
                    go_round
                    case rel => first | exact ⟨k + 1, true, by go_num, rfl, by omega, HB2⟩ | ((repeat apply Exists.intro); exact ⟨⟨k + 1, true, by go_num, rfl, by omega, HB2⟩, rfl⟩)
                    case measure => simp [intOf]; omega
                  · have HB2 : Hid (false = (M0 || (c.ne.take (k + 1)).any (nearK n d L))) := Lib.hid (by have := HNq.out; rwa [decide_eq_false (fun h => hzd h.symm), Bool.false_or] at this)
                    have hb : ((X) == d) = false := by simpa using hzd
                    clear hzd
                    go_wp2_with (go_at_call 27; (with_reducible refine (CWk.out _).mono ?_); rintro e w4 ⟨rfl, rfl⟩)
                    go_round
                    case rel => first | exact ⟨k + 1, false, by go_num, rfl, by omega, HB2⟩ | ((repeat apply Exists.intro); exact ⟨⟨k + 1, false, by go_num, rfl, by omega, HB2⟩, rfl⟩)
                    case measure => simp [intOf]; omega
        · obtain rfl : k = n6 := by omega
          have HM1 : Hid (b = (M0 || c.ne.any (nearK n d L))) := Lib.hid (by have := HBk.out; rwa [List.take_of_length_le (by rw [HN6.out]; exact Nat.le_refl _)] at this)
          clear HBk k6
          have CWn : Hid (∀ w0, Calls Tryz.prog 27 #[.int .i64 n] w0 fun e w' => e = .returned (.int .i64 x) ∧ w0 = w') := Lib.hid fun w0 => hx ▸ refWeekday_any n w0
          obtain ⟨MM, hMM⟩ : ∃ MM, (M0 || c.ne.any (nearK n d L)) = MM := ⟨_, rfl⟩
          rw [hMM] at HDm2 HM1
          obtain rfl := HM1.out
          clear HM1 hMM
          obtain ⟨B8, hB8⟩ : ∃ B, decide (x ∈ c.wd) = B := ⟨_, rfl⟩
          obtain ⟨B9, hB9⟩ : ∃ B, decide (x ∈ c.lo) = B := ⟨_, rfl⟩
          obtain ⟨W0, hW0⟩ : ∃ W0, (B8 || (B9 && decide (L < d + 7))) = W0 := ⟨_, rfl⟩
          have C82 : Hid (Calls Tryz.prog 12 #[.slice o8 n8 p8, .int .i64 x] w3 fun e w' => e = .returned (.bool B8) ∧ w3 = w') := Lib.hid (hB8 ▸ C8.out w3 x HWW.out)
          have C92 : Hid (Calls Tryz.prog 12 #[.slice o9 n9 p9, .int .i64 x] w3 fun e w' => e = .returned (.bool B9) ∧ w3 = w') := Lib.hid (hB9 ▸ C9.out w3 x HWW.out)
          have HDm3 : Hid (∀ q, q = (if A then (Aw || (W0 || c.nt.any (nthK d x))) else if Aw then b else b || (W0 || c.nt.any (nthK d x))) → FP q) := Lib.hid fun q hq => HDm2.out q (by rw [hB8, hB9, hW0]; exact hq)
          have HW0 := Lib.hid hW0
          have k8 := (HW3.out.cell (p := ⟨w.heap.size, 8, none⟩) hlt).trans HQ8.out
          have k9 := (HW3.out.cell (p := ⟨w.heap.size, 9, none⟩) hlt).trans HQ9.out
          clear hB8 hB9 hW0 HDm2 C8 C9
          go_upto_region 23 with (go_at_call 27; (with_reducible refine (CWn.out _).mono ?_); rintro e w4 ⟨rfl, rfl⟩)
          go_cut [0, 12] from 89 to 105 (fun _ s wx => s = .bool W0 ∧ wx = w3)
          case first =>
            cases B8 with
            | true =>
              have HE : Hid (true = W0) := Lib.hid (by rw [← HW0.out]; rfl)
              go_wp2_with (go_at_call 12; (with_reducible refine C82.out.mono ?_); rintro e w4 ⟨rfl, rfl⟩)
              go_meet
              case rel => exact ⟨by rw [HE.out], rfl⟩
            | false =>
              cases B9 with
              | true =>
                by_cases hd : L < d + 7
                · have HE : Hid (true = W0) := Lib.hid (by rw [← HW0.out, decide_eq_true hd]; rfl)
                  go_wp2_with (first
                    | (go_at_call 12; (with_reducible refine C82.out.mono ?_); rintro e w4 ⟨rfl, rfl⟩)
                    | (go_at_call 12; (with_reducible refine C92.out.mono ?_); rintro e w4 ⟨rfl, rfl⟩))
                  go_meet
                  case rel => exact ⟨by rw [HE.out], rfl⟩
                · have HE : Hid (false = W0) := Lib.hid (by rw [← HW0.out, decide_eq_false hd]; rfl)
                  have hb : decide (L < d + 7) = false := decide_eq_false hd
                  go_wp2_with (first
                    | (go_at_call 12; (with_reducible refine C82.out.mono ?_); rintro e w4 ⟨rfl, rfl⟩)
                    | (go_at_call 12; (with_reducible refine C92.out.mono ?_); rintro e w4 ⟨rfl, rfl⟩))
                  go_meet
                  case rel => exact ⟨by rw [HE.out], rfl⟩
              | false =>
                have HE : Hid (false = W0) := Lib.hid (by rw [← HW0.out]; rfl)
                go_wp2_with (first
                  | (go_at_call 12; (with_reducible refine C82.out.mono ?_); rintro e w4 ⟨rfl, rfl⟩)
                  | (go_at_call 12; (with_reducible refine C92.out.mono ?_); rintro e w4 ⟨rfl, rfl⟩))
                go_meet
                case rel => exact ⟨by rw [HE.out], rfl⟩
          case rest =>
            obtain ⟨rfl, hwc⟩ := hcut
            have hwd := hwc.symm
            subst hwd
            clear hwc
            clear C82 C92 k8 k9 HW0
            have k10 := (HW3.out.cell (p := ⟨w.heap.size, 10, none⟩) hlt).trans HQ10.out
            go_wp2_with fail
            go_loopw [12, 109] (fun s12 s109 wr => ∃ (j : Nat) (q : Bool), s109 = .int .i64 (j : Int) ∧ s12 = .bool q ∧ j ≤ n10 ∧ Hid (q = (W0 || (c.nt.take j).any (nthK d x))) ∧ Hid (Below w3.heap.size w3 wr)) (fun _ s _ => n10 - (intOf s).toNat)
            case atStart => exact ⟨0, W0, rfl, rfl, by omega, Lib.hid (by simp), Lib.hid (Below.refl _ _)⟩
            case round =>
              obtain ⟨j, q, rfl, rfl, hj, HBq, HBr⟩ := hrel
              obtain ⟨wL, rfl⟩ : ∃ wo : World, wo = wr := ⟨_, rfl⟩
              have e3 := (HBr.out.cell (p := ⟨D, 3, none⟩) hlD).trans hD3
              by_cases hjn : j < n10
              · have hjl : j < c.nt.length := by rw [HN10.out]; exact hjn
                obtain ⟨ad, rfl, hc1, hc2⟩ := (HPnt.out.call (thenB HWW.out HBr.out)).at hjl
                have hNA := nth_at HGd.out.nt j hjl
                unfold NthAt at hNA
                have HAT := Lib.hid (any_takeP (f := nthK d x) hjl)
                obtain ⟨⟨N, Y⟩, hNY⟩ : ∃ p, c.nt.getD j (0, 0) = p := ⟨_, rfl⟩
                rw [hNY] at hc1 hc2 HAT hNA
                dsimp only at hc1 hc2 hNA
                obtain ⟨g1, g2, -, -, -⟩ := hNA
                have HNx : Hid (∀ r, nthK d x (N, Y) = r → (q || r) = (W0 || (c.nt.take (j + 1)).any (nthK d x))) := Lib.hid fun r hr => by rw [HAT.out, hr, HBq.out, Bool.or_assoc]
                have hne : D ≠ wL.heap.size := Nat.ne_of_lt (Nat.lt_of_lt_of_le hlD HBr.out.size)
                have hDl := Nat.lt_of_lt_of_le hlD HBr.out.size
                have HBn : Hid (Below w3.heap.size w3 (wL.alloc (.cells #[.int .i64 N, .int .i64 Y] 59))) := Lib.hid (HBr.out.alloc HBr.out.size _)
                clear hNY hjl HAT HBq hne
                cases q with
                | true =>
                  have HB2 : Hid (true = (W0 || (c.nt.take (j + 1)).any (nthK d x))) := Lib.hid (by have := HNx.out _ rfl; rwa [Bool.true_or] at this)
                  go_wp2_with fail
                  go_roundw
                  case rel => first | exact ⟨j + 1, true, by go_num, rfl, by omega, HB2, HBn⟩ | ((repeat apply Exists.intro); exact ⟨⟨j + 1, true, by go_num, rfl, by omega, HB2, HBn⟩, rfl⟩)
                  case measure => simp [intOf]; omega
                | false =>
                  by_cases h1 : Y = x
                  · have hb1 : (Y == x) = true := by simpa using h1
                    by_cases h2 : 7 * (N - 1) < d
                    · have hb2 : decide (7 * (N - 1) < d) = true := decide_eq_true h2
                      by_cases h3 : d ≤ 7 * N
                      · have hb3 : decide (d ≤ 7 * N) = true := decide_eq_true h3
                        have HB2 : Hid (true = (W0 || (c.nt.take (j + 1)).any (nthK d x))) := Lib.hid (by have := HNx.out true (by unfold nthK; simp [h1, h2, h3]); rwa [Bool.or_true] at this)
                        clear h1; go_wp2_with fail
                        go_roundw
                        case rel => first | exact ⟨j + 1, true, by go_num, rfl, by omega, HB2, HBn⟩ | ((repeat apply Exists.intro); exact ⟨⟨j + 1, true, by go_num, rfl, by omega, HB2, HBn⟩, rfl⟩)
                        case measure => simp [intOf]; omega
                      · have hb3 : decide (d ≤ 7 * N) = false := decide_eq_false h3
                        have HB2 : Hid (false = (W0 || (c.nt.take (j + 1)).any (nthK d x))) := Lib.hid (by have := HNx.out false (by unfold nthK; simp [h3]); rwa [Bool.or_false] at this)
                        clear h1; go_wp2_with fail
                        go_roundw
                        case rel => first | exact ⟨j + 1, false, by go_num, rfl, by omega, HB2, HBn⟩ | ((repeat apply Exists.intro); exact ⟨⟨j + 1, false, by go_num, rfl, by omega, HB2, HBn⟩, rfl⟩)
                        case measure => simp [intOf]; omega
                    · have hb2 : decide (7 * (N - 1) < d) = false := decide_eq_false h2
                      have HB2 : Hid (false = (W0 || (c.nt.take (j + 1)).any (nthK d x))) := Lib.hid (by have := HNx.out false (by unfold nthK; simp [h2]); rwa [Bool.or_false] at this)
                      clear h1; go_wp2_with fail
                      go_roundw
                      case rel => first | exact ⟨j + 1, false, by go_num, rfl, by omega, HB2, HBn⟩ | ((repeat apply Exists.intro); exact ⟨⟨j + 1, false, by go_num, rfl, by omega, HB2, HBn⟩, rfl⟩)
                      case measure => simp [intOf]; omega
                  · have hb1 : (Y == x) = false := by simpa using h1
                    have HB2 : Hid (false = (W0 || (c.nt.take (j + 1)).any (nthK d x))) := Lib.hid (by have := HNx.out false (by unfold nthK; simp [h1]); rwa [Bool.or_false] at this)
                    clear h1; go_wp2_with fail
                    go_roundw
                    case rel => first | exact ⟨j + 1, false, by go_num, rfl, by omega, HB2, HBn⟩ | ((repeat apply Exists.intro); exact ⟨⟨j + 1, false, by go_num, rfl, by omega, HB2, HBn⟩, rfl⟩)
                    case measure => simp [intOf]; omega
              · obtain rfl : j = n10 := by omega
                have HM2 : Hid (q = (W0 || c.nt.any (nthK d x))) := Lib.hid (by have := HBq.out; rwa [List.take_of_length_le (by rw [HN10.out]; exact Nat.le_refl _)] at this)
                obtain ⟨MW, hMW⟩ : ∃ MW, (W0 || c.nt.any (nthK d x)) = MW := ⟨_, rfl⟩
                rw [hMW] at HDm3 HM2
                obtain rfl := HM2.out
                have k3 := (HBr.out.cell (p := ⟨w.heap.size, 3, none⟩) hlw).trans ((HW3.out.cell (p := ⟨w.heap.size, 3, none⟩) hlt).trans HQ3.out)
                have k7 := (HBr.out.cell (p := ⟨w.heap.size, 7, none⟩) hlw).trans ((HW3.out.cell (p := ⟨w.heap.size, 7, none⟩) hlt).trans HQ7.out)
                have HWL := Lib.hid (thenB HWW.out HBr.out)
                clear HM2 hMW HBq k10 e3
                cases A with
                | true =>
                  cases q with
                  | true =>
                    go_wp2_with fail
                    go_ret
                    exact ⟨true, rfl, HDm3.out true (by simp), HWL.out⟩
                  | false =>
                    go_wp2_with fail
                    go_ret
                    exact ⟨Aw, rfl, HDm3.out Aw (by simp), HWL.out⟩
                | false =>
                  cases Aw with
                  | true =>
                    go_wp2_with fail
                    go_ret
                    exact ⟨b, rfl, HDm3.out b (by simp), HWL.out⟩
                  | false =>
                    cases b with
                    | true =>
                      go_wp2_with fail
                      go_ret
                      exact ⟨true, rfl, HDm3.out true (by simp), HWL.out⟩
                    | false =>
                      go_wp2_with fail
                      go_ret
                      exact ⟨q, rfl, HDm3.out q (by simp), HWL.out⟩
end Go.Proofs.YtdnbnpknmdcljaaGreatDoor
