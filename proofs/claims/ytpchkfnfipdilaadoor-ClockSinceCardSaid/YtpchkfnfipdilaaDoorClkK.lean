/- The period between two times: the document's; and the law ClockSince. -/
import Derived.Test.YtpchkfnfipdilaaDoorClkH
import Derived.Test.YtpchkfnfipdilaaDoorClkR
namespace Go.Proofs.YtpchkfnfipdilaaDoor
open Go.RowKit
set_option maxRecDepth 100000 in
set_option maxHeartbeats 4000000 in
theorem refSince_ok (a b : Int) (w : World) (a1 : -345600000000 ≤ a) (a2 : a ≤ 345600086399) (b1 : -345600000000 ≤ b) (b2 : b ≤ 345600086399) (hab : a ≤ b) : Calls Tryd.prog 18 #[.int .i64 a, .int .i64 b] w (SinPost a b (.int .i64) w) := by
  have HEa := Lib.hid (loc_in a1 a2)
  have HEb := Lib.hid (loc_in b1 b2)
  have hab' : ¬ b < a := by omega
  go_enter Tryd.func18, Tryd.ntmps18
  go_wp2_with fail
  refine (refTell_all _ _ (InI.mk (by omega) (by omega))).mono ?_; rintro en w1 ⟨c, y, m, d, h, mi, s, rfl, hR1, hb1⟩
  rw [HEa.out.1]
  unfold dateV clkV
  have ha := hR1.dated a1 a2
  obtain ⟨y1, y2, m1, m2, d1, d2⟩ := ha.year
  have HA := Lib.hid ha; clear hR1 ha d1 d2
  have hz1 := hb1.size
  simp only [World.size_alloc] at hz1
  obtain ⟨q1, p1⟩ := carry hb1 w.heap.size (by simp)
  have hs1 : w.heap.size < w1.heap.size := by omega
  have HB1 := Lib.hid (offA hb1); clear hb1
  go_wp2_with fail
  refine (refTell_all _ _ (InI.mk (by omega) (by omega))).mono ?_; rintro en w2 ⟨c', y', m', d', h', mi', s', rfl, hR2, hb2⟩
  rw [HEb.out.1]
  unfold dateV clkV
  have hb := hR2.dated b1 b2
  obtain ⟨y1', y2', m1', m2', _, _⟩ := hb.year
  have hord := months_order HA.out hb hab
  have HBD := Lib.hid hb; clear hR2 hb
  have hz2 := hb2.size
  simp only [World.size_alloc] at hz2
  obtain ⟨q2, p2⟩ := carry hb2 w.heap.size (by simp; omega)
  obtain ⟨q2'', p2''⟩ := carry hb2 w1.heap.size (by simp; omega)
  have r2 : ∀ o, w2.cell? ⟨w.heap.size, o, none⟩ = (w.alloc (.cells #[.int .i64 0, .int .i64 0, .int .i64 0, .int .i64 0, .int .i64 0] 38)).cell? ⟨w.heap.size, o, none⟩ := fun o => (q2 o).trans ((cell_alloc (by simp; omega)).trans ((cell_alloc hs1).trans (q1 o)))
  have f2 : ∀ o, w2.frozen? ⟨w.heap.size, o, none⟩ = (w.alloc (.cells #[.int .i64 0, .int .i64 0, .int .i64 0, .int .i64 0, .int .i64 0] 38)).frozen? ⟨w.heap.size, o, none⟩ := fun o => (p2 o).trans ((frozen_alloc (by simp; omega)).trans ((frozen_alloc hs1).trans (p1 o)))
  clear q2 q1 p2 p1
  have hs2 : w.heap.size < w2.heap.size := by omega
  have hs2'' : w1.heap.size < w2.heap.size := by omega
  have HB2 := Lib.hid (thenB HB1.out (offA (offA hb2))); clear hb2
  have hlast : ∀ j r', 12 * (y' - y) + m' - m < j → j ≤ 1000000 → ¬ Good a b j r' := fun j r' h1 h2 => good_none HA.out HBD.out (by omega) h2 (by omega)
  have HLA := Lib.hid hlast; clear hlast
  go_wp2_with fail
  refine (refAdd_all _ _ _ _ _ _ _ (InI.mk (by omega) (by omega))).mono ?_; rintro en w3 ⟨r0, x0, rfl, hAR0, hb3⟩
  have hz3 := hb3.size
  simp only [World.size_alloc] at hz3
  obtain ⟨q3, p3⟩ := carry hb3 w.heap.size (by simp; omega)
  have r3 : ∀ o, w3.cell? ⟨w.heap.size, o, none⟩ = (w.alloc (.cells #[.int .i64 0, .int .i64 0, .int .i64 0, .int .i64 0, .int .i64 0] 38)).cell? ⟨w.heap.size, o, none⟩ := fun o => (q3 o).trans ((cell_alloc (by simp; omega)).trans ((cell_alloc hs2).trans (r2 o)))
  have f3 : ∀ o, w3.frozen? ⟨w.heap.size, o, none⟩ = (w.alloc (.cells #[.int .i64 0, .int .i64 0, .int .i64 0, .int .i64 0, .int .i64 0] 38)).frozen? ⟨w.heap.size, o, none⟩ := fun o => (p3 o).trans ((frozen_alloc (by simp; omega)).trans ((frozen_alloc hs2).trans (f2 o)))
  clear q3 p3 r2 f2
  have hs3 : w.heap.size < w3.heap.size := by omega
  have HB3 := Lib.hid (thenB HB2.out (offA (offA hb3))); clear hb3
  have HAR0 := Lib.hid hAR0; clear hAR0
  go_wp2_with fail
  go_loopw [12, 13, 8] (fun nn at_ ee wr => ∃ k r x : Int, nn = .int .i64 k ∧ at_ = .int .i64 r ∧ ee = .int .i64 x ∧ 0 ≤ k ∧ k ≤ 12 * (y' - y) + m' - m + 1 ∧ Hid (AddR a 0 k 0 0 0 r x) ∧ Hid (∀ j r', k < j → j ≤ 1000000 → ¬ Good a b j r') ∧ (∀ o, wr.cell? ⟨w.heap.size, o, none⟩ = (w.alloc (.cells #[.int .i64 0, .int .i64 0, .int .i64 0, .int .i64 0, .int .i64 0] 38)).cell? ⟨w.heap.size, o, none⟩) ∧ (∀ o, wr.frozen? ⟨w.heap.size, o, none⟩ = (w.alloc (.cells #[.int .i64 0, .int .i64 0, .int .i64 0, .int .i64 0, .int .i64 0] 38)).frozen? ⟨w.heap.size, o, none⟩) ∧ w.heap.size < wr.heap.size ∧ Hid (Below w.heap.size w wr)) (fun nn _ _ _ => (intOf nn).toNat)
  case atStart => exact ⟨_, r0, x0, rfl, rfl, rfl, by omega, by omega, HAR0, Lib.hid (fun j r' h1 h2 => HLA.out j r' (by omega) h2), r3, f3, hs3, HB3⟩
  case round =>
    obtain ⟨k, r, x, rfl, rfl, rfl, k1, k2, HAR, HG, r4, f4, hs4, HW⟩ := hrel
    by_cases hgood : x = 0 ∧ r ≤ b
    · obtain ⟨rfl, hrb⟩ := hgood
      have hg : Good a b k r := ⟨HAR.out, hrb⟩
      obtain ⟨⟨_, _, hlo, hhi⟩, hr, _⟩ := hg.parts HA.out k1 (by omega)
      have hr1 : -345700000000 ≤ r := by omega
      have hr2 : 0 ≤ b - r := by omega
      have hb10 : b - r ≤ 700000000000 := by omega
      have HGG := Lib.hid hg
      clear hr hlo hhi hg
      go_wp2_with fail
      refine bodyPost_ret (v := .tuple #[perV (k / 12) (k % 12) ((b - r) / 86400) ((b - r) % 86400), .int .i64 0]) (by simp [results, Tryd.results18, go_sem, perV, r4]) rfl ⟨_, _, _, _, 0, rfl, .inr (.inr ⟨a1, a2, b1, b2, hab, rfl, _, _, _, _, _, _, k, r, HA.out, HBD.out, k1, by omega, HGG.out, HG.out, rfl, rfl, rfl, rfl⟩), ?_⟩
      repeat (first | with_reducible exact HW.out | (with_reducible refine Below.alloc ?_ (by first | omega | (simp <;> omega)) _) | (with_reducible refine Below.setCell ?_ (by first | omega | (simp <;> omega)) _))
    · have hng : ∀ r', ¬ Good a b k r' := fun r' h => by
        obtain ⟨e1, e2⟩ := HAR.out.one h.1
        subst e1; subst e2
        exact hgood ⟨rfl, h.2⟩
      have hk0 : k ≠ 0 := fun h => by
        subst h
        exact hng a (good_zero HA.out hab)
      have HG2 : Hid (∀ j r', k - 1 < j → j ≤ 1000000 → ¬ Good a b j r') := Lib.hid fun j r' h1 h2 => by
        by_cases hj : j = k
        · subst hj; exact hng r'
        · exact HG.out j r' (by omega) h2
      clear hng
      by_cases hx : x = 0
      · subst hx
        have hrb : ¬ r ≤ b := fun h => hgood ⟨rfl, h⟩
        clear hgood
        go_wp2_with fail
        refine (refAdd_all _ _ _ _ _ _ _ (InI.mk (by omega) (by omega))).mono ?_; rintro en w5 ⟨r5, x5, rfl, hAR5, hb5⟩
        have hz5 := hb5.size
        obtain ⟨q5, p5⟩ := carry hb5 w.heap.size hs4
        have HB5 := Lib.hid (thenB HW.out hb5); clear hb5
        have HAR5 := Lib.hid hAR5; clear hAR5
        go_wp2_with fail
        go_roundw
        case rel => exact ⟨k - 1, r5, x5, rfl, rfl, rfl, by omega, by omega, HAR5, HG2, fun o => (q5 o).trans (r4 o), fun o => (p5 o).trans (f4 o), by omega, HB5⟩
        case measure => simp [intOf]; omega
      · clear hgood
        go_wp2_with fail
        refine (refAdd_all _ _ _ _ _ _ _ (InI.mk (by omega) (by omega))).mono ?_; rintro en w5 ⟨r5, x5, rfl, hAR5, hb5⟩
        have hz5 := hb5.size
        obtain ⟨q5, p5⟩ := carry hb5 w.heap.size hs4
        have HB5 := Lib.hid (thenB HW.out hb5); clear hb5
        have HAR5 := Lib.hid hAR5; clear hAR5
        go_wp2_with fail
        go_roundw
        case rel => exact ⟨k - 1, r5, x5, rfl, rfl, rfl, by omega, by omega, HAR5, HG2, fun o => (q5 o).trans (r4 o), fun o => (p5 o).trans (f4 o), by omega, HB5⟩
        case measure => simp [intOf]; omega
set_option maxRecDepth 100000 in
set_option maxHeartbeats 2000000 in
theorem refSince_a (a b : Int) (w : World) (ia : InI a) (ib : InI b) (h : a < -345600000000 ∨ 345600086399 < a) : Calls Tryd.prog 18 #[.int .i64 a, .int .i64 b] w (SinPost a b (.int .i64) w) := by
  have HI := Lib.hid (And.intro ia ib); clear ia ib
  have HEa := Lib.hid (loc_out h)
  have HH := Lib.hid h; clear h
  obtain ⟨EE, hEE⟩ : ∃ EE, locE b = EE := ⟨_, rfl⟩
  have HEE := Lib.hid hEE; clear hEE
  go_enter Tryd.func18, Tryd.ntmps18
  go_wp2_with fail
  refine (refTell_all _ _ HI.out.1).mono ?_; rintro en w1 ⟨c, y, m, d, h, mi, s, rfl, hR1, hb1⟩
  clear hR1
  rw [HEa.out.1]
  unfold dateV clkV
  have hz1 := hb1.size
  simp only [World.size_alloc] at hz1
  obtain ⟨q1, p1⟩ := carry hb1 w.heap.size (by simp)
  have hs1 : w.heap.size < w1.heap.size := by omega
  have HB1 := Lib.hid (offA hb1); clear hb1
  go_wp2_with fail
  refine (refTell_all _ _ HI.out.2).mono ?_; rintro en w2 ⟨c', y', m', d', h', mi', s', rfl, hR2, hb2⟩
  clear hR2
  rw [HEE.out]
  unfold dateV clkV
  have hz2 := hb2.size
  simp only [World.size_alloc] at hz2
  obtain ⟨q2, p2⟩ := carry hb2 w.heap.size (by simp; omega)
  have r2 : ∀ o, w2.cell? ⟨w.heap.size, o, none⟩ = (w.alloc (.cells #[.int .i64 0, .int .i64 0, .int .i64 0, .int .i64 0, .int .i64 0] 38)).cell? ⟨w.heap.size, o, none⟩ := fun o => (q2 o).trans ((cell_alloc (by simp; omega)).trans ((cell_alloc hs1).trans (q1 o)))
  have f2 : ∀ o, w2.frozen? ⟨w.heap.size, o, none⟩ = (w.alloc (.cells #[.int .i64 0, .int .i64 0, .int .i64 0, .int .i64 0, .int .i64 0] 38)).frozen? ⟨w.heap.size, o, none⟩ := fun o => (p2 o).trans ((frozen_alloc (by simp; omega)).trans ((frozen_alloc hs1).trans (p1 o)))
  clear q2 q1 p2 p1
  have hs2 : w.heap.size < w2.heap.size := by omega
  have HB2 := Lib.hid (thenB HB1.out (offA (offA hb2))); clear hb2
  go_wp2_with fail
  refine bodyPost_ret (v := .tuple #[perV 0 0 0 0, .int .i64 4]) (by simp [results, Tryd.results18, go_sem, perV, r2, hs2]) rfl ⟨0, 0, 0, 0, 4, rfl, .inl ⟨by have := HH.out; omega, rfl, rfl, rfl, rfl, rfl⟩, ?_⟩
  repeat (first | with_reducible exact HB2.out | (with_reducible refine Below.alloc ?_ (by first | omega | (simp <;> omega)) _) | (with_reducible refine Below.setCell ?_ (by first | omega | (simp <;> omega)) _))
set_option maxRecDepth 100000 in
set_option maxHeartbeats 2000000 in
theorem refSince_b (a b : Int) (w : World) (ia : InI a) (ib : InI b) (a1 : -345600000000 ≤ a) (a2 : a ≤ 345600086399) (h : b < -345600000000 ∨ 345600086399 < b) : Calls Tryd.prog 18 #[.int .i64 a, .int .i64 b] w (SinPost a b (.int .i64) w) := by
  have HI := Lib.hid (And.intro ia ib); clear ia ib
  have HEa := Lib.hid (loc_in a1 a2)
  have HEb := Lib.hid (loc_out h)
  have HH := Lib.hid h; clear h
  go_enter Tryd.func18, Tryd.ntmps18
  go_wp2_with fail
  refine (refTell_all _ _ HI.out.1).mono ?_; rintro en w1 ⟨c, y, m, d, h, mi, s, rfl, hR1, hb1⟩
  clear hR1
  rw [HEa.out.1]
  unfold dateV clkV
  have hz1 := hb1.size
  simp only [World.size_alloc] at hz1
  obtain ⟨q1, p1⟩ := carry hb1 w.heap.size (by simp)
  have hs1 : w.heap.size < w1.heap.size := by omega
  have HB1 := Lib.hid (offA hb1); clear hb1
  go_wp2_with fail
  refine (refTell_all _ _ HI.out.2).mono ?_; rintro en w2 ⟨c', y', m', d', h', mi', s', rfl, hR2, hb2⟩
  clear hR2
  rw [HEb.out.1]
  unfold dateV clkV
  have hz2 := hb2.size
  simp only [World.size_alloc] at hz2
  obtain ⟨q2, p2⟩ := carry hb2 w.heap.size (by simp; omega)
  have r2 : ∀ o, w2.cell? ⟨w.heap.size, o, none⟩ = (w.alloc (.cells #[.int .i64 0, .int .i64 0, .int .i64 0, .int .i64 0, .int .i64 0] 38)).cell? ⟨w.heap.size, o, none⟩ := fun o => (q2 o).trans ((cell_alloc (by simp; omega)).trans ((cell_alloc hs1).trans (q1 o)))
  have f2 : ∀ o, w2.frozen? ⟨w.heap.size, o, none⟩ = (w.alloc (.cells #[.int .i64 0, .int .i64 0, .int .i64 0, .int .i64 0, .int .i64 0] 38)).frozen? ⟨w.heap.size, o, none⟩ := fun o => (p2 o).trans ((frozen_alloc (by simp; omega)).trans ((frozen_alloc hs1).trans (p1 o)))
  clear q2 q1 p2 p1
  have hs2 : w.heap.size < w2.heap.size := by omega
  have HB2 := Lib.hid (thenB HB1.out (offA (offA hb2))); clear hb2
  go_wp2_with fail
  refine bodyPost_ret (v := .tuple #[perV 0 0 0 0, .int .i64 4]) (by simp [results, Tryd.results18, go_sem, perV, r2, hs2]) rfl ⟨0, 0, 0, 0, 4, rfl, .inl ⟨by have := HH.out; omega, rfl, rfl, rfl, rfl, rfl⟩, ?_⟩
  repeat (first | with_reducible exact HB2.out | (with_reducible refine Below.alloc ?_ (by first | omega | (simp <;> omega)) _) | (with_reducible refine Below.setCell ?_ (by first | omega | (simp <;> omega)) _))
set_option maxRecDepth 100000 in
set_option maxHeartbeats 2000000 in
theorem refSince_ab (a b : Int) (w : World) (ia : InI a) (ib : InI b) (a1 : -345600000000 ≤ a) (a2 : a ≤ 345600086399) (b1 : -345600000000 ≤ b) (b2 : b ≤ 345600086399) (hab : b < a) : Calls Tryd.prog 18 #[.int .i64 a, .int .i64 b] w (SinPost a b (.int .i64) w) := by
  have HI := Lib.hid (And.intro ia ib); clear ia ib
  have HEa := Lib.hid (loc_in a1 a2)
  have HEb := Lib.hid (loc_in b1 b2)
  go_enter Tryd.func18, Tryd.ntmps18
  go_wp2_with fail
  refine (refTell_all _ _ HI.out.1).mono ?_; rintro en w1 ⟨c, y, m, d, h, mi, s, rfl, hR1, hb1⟩
  clear hR1
  rw [HEa.out.1]
  unfold dateV clkV
  have hz1 := hb1.size
  simp only [World.size_alloc] at hz1
  obtain ⟨q1, p1⟩ := carry hb1 w.heap.size (by simp)
  have hs1 : w.heap.size < w1.heap.size := by omega
  have HB1 := Lib.hid (offA hb1); clear hb1
  go_wp2_with fail
  refine (refTell_all _ _ HI.out.2).mono ?_; rintro en w2 ⟨c', y', m', d', h', mi', s', rfl, hR2, hb2⟩
  clear hR2
  rw [HEb.out.1]
  unfold dateV clkV
  have hz2 := hb2.size
  simp only [World.size_alloc] at hz2
  obtain ⟨q2, p2⟩ := carry hb2 w.heap.size (by simp; omega)
  have r2 : ∀ o, w2.cell? ⟨w.heap.size, o, none⟩ = (w.alloc (.cells #[.int .i64 0, .int .i64 0, .int .i64 0, .int .i64 0, .int .i64 0] 38)).cell? ⟨w.heap.size, o, none⟩ := fun o => (q2 o).trans ((cell_alloc (by simp; omega)).trans ((cell_alloc hs1).trans (q1 o)))
  have f2 : ∀ o, w2.frozen? ⟨w.heap.size, o, none⟩ = (w.alloc (.cells #[.int .i64 0, .int .i64 0, .int .i64 0, .int .i64 0, .int .i64 0] 38)).frozen? ⟨w.heap.size, o, none⟩ := fun o => (p2 o).trans ((frozen_alloc (by simp; omega)).trans ((frozen_alloc hs1).trans (p1 o)))
  clear q2 q1 p2 p1
  have hs2 : w.heap.size < w2.heap.size := by omega
  have HB2 := Lib.hid (thenB HB1.out (offA (offA hb2))); clear hb2
  go_wp2_with fail
  refine bodyPost_ret (v := .tuple #[perV 0 0 0 0, .int .i64 7]) (by simp [results, Tryd.results18, go_sem, perV, r2, hs2]) rfl ⟨0, 0, 0, 0, 7, rfl, .inr (.inl ⟨a1, a2, b1, b2, hab, rfl, rfl, rfl, rfl, rfl⟩), ?_⟩
  repeat (first | with_reducible exact HB2.out | (with_reducible refine Below.alloc ?_ (by first | omega | (simp <;> omega)) _) | (with_reducible refine Below.setCell ?_ (by first | omega | (simp <;> omega)) _))
theorem refSince_all (a b : Int) (w : World) (ia : InI a) (ib : InI b) : Calls Tryd.prog 18 #[.int .i64 a, .int .i64 b] w (SinPost a b (.int .i64) w) := by
  rcases loc_ways a with h | ⟨a1, a2⟩
  · exact refSince_a a b w ia ib h
  · rcases loc_ways b with h | ⟨b1, b2⟩
    · exact refSince_b a b w ia ib a1 a2 h
    · rcases (show b < a ∨ a ≤ b by omega) with h | h
      · exact refSince_ab a b w ia ib a1 a2 b1 b2 h
      · exact refSince_ok a b w a1 a2 b1 b2 h
set_option maxHeartbeats 2000000 in
theorem clockSince_walk (a b : Int) (w : World) (hT : ErrT w) (hr : RomanT w) (ia : InI a) (ib : InI b) : Calls Tryd.prog 5 #[.int .i64 a, .int .i64 b] w fun e w' => e = .returned (.bool true) ∧ Below w.heap.size w w' := by
  have HT : Hid (ErrT w ∧ RomanT w ∧ InI a ∧ InI b) := Lib.hid ⟨hT, hr, ia, ib⟩; clear hT hr ia ib
  go_enter Tryd.func5, Tryd.ntmps5
  go_wp2_with fail
  refine (plainSince _ _ _ HT.out.1 HT.out.2.1).mono ?_; rintro en w1 ⟨yy, mm, dd, ss, x, rfl, hR, hb1⟩
  unfold perV
  have hz1 := hb1.size
  have HB := Lib.hid (And.intro hR hb1); clear hb1 hR
  go_wp2_with fail
  refine (refSince_all _ _ _ HT.out.2.2.1 HT.out.2.2.2).mono ?_; rintro en w2 ⟨yy', mm', dd', ss', x', rfl, hR', hb2⟩
  obtain ⟨rfl, rfl, rfl, rfl, rfl⟩ := HB.out.1.one hR'
  unfold perV
  clear hR'
  have hz2 := hb2.size
  simp only [World.size_alloc] at hz2
  obtain ⟨q2, p2⟩ := carry hb2 w1.heap.size (by simp)
  have hs2 : w1.heap.size < w2.heap.size := by omega
  have HB2 := Lib.hid (thenB HB.out.2 (offA hb2)); clear hb2
  go_wp2_with fail
  all_goals go_ret
  all_goals exact ⟨retB (by simp), (HB2.out.alloc (by omega) _)⟩
end Go.Proofs.YtpchkfnfipdilaaDoor
