/- The period between two times: the program's. -/
import Derived.Test.YtpchkfnfipdilaaDoorClkF
import Derived.Test.YtpchkfnfipdilaaDoorClkS
namespace Go.Proofs.YtpchkfnfipdilaaDoor
open Go.RowKit
def perV (yy mm dd ss : Int) : Value := .agg #[.int .i64 yy, .int .i64 mm, .int .i64 0, .int .i64 dd, .int .i64 ss]
def SinPost (a b : Int) (er : Int → Value) (w : World) (e : Ending) (w' : World) : Prop := ∃ yy mm dd ss x, e = .returned (.tuple #[perV yy mm dd ss, er x]) ∧ SinR a b yy mm dd ss x ∧ Below w.heap.size w w'
theorem TellR.dated {t c y m d h mi s : Int} (g : TellR t c y m d h mi s) (h1 : -345600000000 ≤ t) (h2 : t ≤ 345600086399) : Dated t y m d := by
  rcases g with ⟨e, _⟩ | ⟨_, _, ho, _⟩
  · omega
  · rcases ho with ⟨e, _⟩ | ⟨_, _, _, _, hv, hd⟩
    · have := day_of_loc h1 h2
      exact absurd (ofE_ok (by omega) (by omega) this.1 this.2) e
    · exact ⟨h1, h2, hv, hd⟩
theorem frozen_alloc {w : World} {x : Obj} {B o : Nat} (h : B < w.heap.size) : (w.alloc x).frozen? ⟨B, o, none⟩ = w.frozen? ⟨B, o, none⟩ :=
  (Below.alloc (Below.refl w.heap.size w) (Nat.le_refl _) x).frozen (p := ⟨B, o, none⟩) h
set_option maxRecDepth 100000 in
set_option maxHeartbeats 4000000 in
theorem since_ok (a b : Int) (w : World) (hr : RomanT w) (a1 : -345600000000 ≤ a) (a2 : a ≤ 345600086399) (b1 : -345600000000 ≤ b) (b2 : b ≤ 345600086399) (hab : a ≤ b) : Calls Tryd.prog 34 #[.int .i64 a, .int .i64 b] w (SinPost a b errV w) := by
  have HR := Lib.hid hr; clear hr
  have HEa := Lib.hid (loc_in a1 a2)
  have HEb := Lib.hid (loc_in b1 b2)
  have hab' : ¬ b < a := by omega
  go_enter Tryd.func34, Tryd.ntmps34
  go_wp2_with fail
  refine (ctell_all _ _ (by repeat (first | exact HR.out | (with_reducible refine RomanT.alloc ?_ _)))).mono ?_; rintro en w1 ⟨c, y, m, d, h, mi, s, rfl, hR1, hb1⟩
  rw [HEa.out.1, errV_nil]
  unfold dateV clkV
  have ha := hR1.dated a1 a2
  obtain ⟨y1, y2, m1, m2, d1, d2⟩ := ha.year
  have HA := Lib.hid ha; clear hR1 ha d1 d2
  have hz1 := hb1.size
  simp only [World.size_alloc] at hz1
  obtain ⟨q1, p1⟩ := carry hb1 w.heap.size (by simp; omega)
  obtain ⟨q1', p1'⟩ := carry hb1 (w.heap.size + 1) (by simp)
  have hs1 : w.heap.size < w1.heap.size := by omega
  have hs1' : w.heap.size + 1 < w1.heap.size := by omega
  have HR1 := Lib.hid (RomanT.call ((HR.out.alloc _).alloc _) hb1)
  have HB1 := Lib.hid (offA (offA hb1)); clear hb1
  go_wp2_with fail
  refine (ctell_all _ _ (by repeat (first | exact HR1.out | (with_reducible refine RomanT.alloc ?_ _)))).mono ?_; rintro en w2 ⟨c', y', m', d', h', mi', s', rfl, hR2, hb2⟩
  rw [HEb.out.1, errV_nil]
  unfold dateV clkV
  have hb := hR2.dated b1 b2
  obtain ⟨y1', y2', m1', m2', _, _⟩ := hb.year
  have hord := months_order HA.out hb hab
  have HBD := Lib.hid hb; clear hR2 hb
  have hz2 := hb2.size
  simp only [World.size_alloc] at hz2
  obtain ⟨q2, p2⟩ := carry hb2 w.heap.size (by simp; omega)
  obtain ⟨q2', p2'⟩ := carry hb2 (w.heap.size + 1) (by simp; omega)
  obtain ⟨q2'', p2''⟩ := carry hb2 w1.heap.size (by simp; omega)
  have r2 : ∀ o, w2.cell? ⟨w.heap.size, o, none⟩ = (w.alloc (.cells #[.int .i64 0, .int .i64 0, .int .i64 0, .int .i64 0, .int .i64 0] 38)).cell? ⟨w.heap.size, o, none⟩ := fun o => (q2 o).trans ((cell_alloc (by simp; omega)).trans ((cell_alloc hs1).trans ((q1 o).trans (cell_alloc (by simp)))))
  have r2' : ∀ o, w2.cell? ⟨w.heap.size + 1, o, none⟩ = ((w.alloc (.cells #[.int .i64 0, .int .i64 0, .int .i64 0, .int .i64 0, .int .i64 0] 38)).alloc (.cells #[.int .i64 0, .int .i64 0, .int .i64 0, .int .i64 0, .int .i64 0] 38)).cell? ⟨w.heap.size + 1, o, none⟩ := fun o => (q2' o).trans ((cell_alloc (by simp; omega)).trans ((cell_alloc hs1').trans (q1' o)))
  have f2 : ∀ o, w2.frozen? ⟨w.heap.size, o, none⟩ = (w.alloc (.cells #[.int .i64 0, .int .i64 0, .int .i64 0, .int .i64 0, .int .i64 0] 38)).frozen? ⟨w.heap.size, o, none⟩ := fun o => (p2 o).trans ((frozen_alloc (by simp; omega)).trans ((frozen_alloc hs1).trans ((p1 o).trans (frozen_alloc (by simp)))))
  have f2' : ∀ o, w2.frozen? ⟨w.heap.size + 1, o, none⟩ = ((w.alloc (.cells #[.int .i64 0, .int .i64 0, .int .i64 0, .int .i64 0, .int .i64 0] 38)).alloc (.cells #[.int .i64 0, .int .i64 0, .int .i64 0, .int .i64 0, .int .i64 0] 38)).frozen? ⟨w.heap.size + 1, o, none⟩ := fun o => (p2' o).trans ((frozen_alloc (by simp; omega)).trans ((frozen_alloc hs1').trans (p1' o)))
  clear q2 q2' q1 q1' p2 p2' p1 p1'
  have hs2 : w.heap.size < w2.heap.size := by omega
  have hs2' : w.heap.size + 1 < w2.heap.size := by omega
  have hs2'' : w1.heap.size < w2.heap.size := by omega
  have HR2 := Lib.hid (RomanT.call ((HR1.out.alloc _).alloc _) hb2)
  have HB2 := Lib.hid (thenB HB1.out (offA (offA hb2))); clear hb2
  have hlast : ∀ j r', 12 * (y' - y) + m' - m < j → j ≤ 1000000 → ¬ Good a b j r' := fun j r' h1 h2 => good_none HA.out HBD.out (by omega) h2 (by omega)
  have HLA := Lib.hid hlast; clear hlast
  have e2 : ∀ o, w2.cell? ⟨w.heap.size, o, none⟩ = w2.cell? ⟨w.heap.size, o, none⟩ := fun _ => rfl
  clear e2
  go_wp2_with fail
  go_loopw [12] (fun nn wr => ∃ k : Int, nn = .int .i64 k ∧ 0 ≤ k ∧ k ≤ 12 * (y' - y) + m' - m ∧ Hid (∀ j r', k < j → j ≤ 1000000 → ¬ Good a b j r') ∧ (∀ o, wr.cell? ⟨w.heap.size, o, none⟩ = (w.alloc (.cells #[.int .i64 0, .int .i64 0, .int .i64 0, .int .i64 0, .int .i64 0] 38)).cell? ⟨w.heap.size, o, none⟩) ∧ (∀ o, wr.frozen? ⟨w.heap.size, o, none⟩ = (w.alloc (.cells #[.int .i64 0, .int .i64 0, .int .i64 0, .int .i64 0, .int .i64 0] 38)).frozen? ⟨w.heap.size, o, none⟩) ∧ (∀ o, wr.cell? ⟨w.heap.size + 1, o, none⟩ = ((w.alloc (.cells #[.int .i64 0, .int .i64 0, .int .i64 0, .int .i64 0, .int .i64 0] 38)).alloc (.cells #[.int .i64 0, .int .i64 0, .int .i64 0, .int .i64 0, .int .i64 0] 38)).cell? ⟨w.heap.size + 1, o, none⟩) ∧ (∀ o, wr.frozen? ⟨w.heap.size + 1, o, none⟩ = ((w.alloc (.cells #[.int .i64 0, .int .i64 0, .int .i64 0, .int .i64 0, .int .i64 0] 38)).alloc (.cells #[.int .i64 0, .int .i64 0, .int .i64 0, .int .i64 0, .int .i64 0] 38)).frozen? ⟨w.heap.size + 1, o, none⟩) ∧ w.heap.size + 1 < wr.heap.size ∧ Hid (RomanT wr ∧ Below w.heap.size w wr)) (fun nn _ => (intOf nn).toNat)
  case atStart =>
    refine ⟨_, rfl, by omega, by omega, HLA, fun o => (cell_alloc (by simp; omega)).trans ((cell_alloc hs2).trans (r2 o)), fun o => (frozen_alloc (by simp; omega)).trans ((frozen_alloc hs2).trans (f2 o)), fun o => (cell_alloc (by simp; omega)).trans ((cell_alloc hs2').trans (r2' o)), fun o => (frozen_alloc (by simp; omega)).trans ((frozen_alloc hs2').trans (f2' o)), by simp; omega, Lib.hid ⟨(HR2.out.alloc _).alloc _, (HB2.out.alloc (by omega) _).alloc (by simp; omega) _⟩⟩
  case round =>
    obtain ⟨k, rfl, k1, k2, HG, r3, f3, r3', f3', hs3, HW⟩ := hrel
    go_wp2_with fail
    refine (add_all _ _ _ _ _ _ _ HW.out.1).mono ?_; rintro en w3 ⟨r, x, rfl, hAR, hb3⟩
    have hz3 := hb3.size
    obtain ⟨q4, p4⟩ := carry hb3 w.heap.size (by omega)
    obtain ⟨q4', p4'⟩ := carry hb3 (w.heap.size + 1) hs3
    have hs4 : w.heap.size < w3.heap.size := by omega
    have hs4' : w.heap.size + 1 < w3.heap.size := by omega
    have HBQ := Lib.hid hb3
    have HB3 := Lib.hid (thenB HW.out.2 hb3); clear hb3
    by_cases hgood : x = 0 ∧ r ≤ b
    · obtain ⟨rfl, hrb⟩ := hgood
      rw [errV_nil]
      have hg : Good a b k r := ⟨hAR, hrb⟩
      obtain ⟨⟨_, _, hlo, hhi⟩, hr, _⟩ := hg.parts HA.out k1 (by omega)
      have hr1 : -345700000000 ≤ r := by omega
      have hr2 : 0 ≤ b - r := by omega
      have hb10 : b - r ≤ 700000000000 := by omega
      have HGG := Lib.hid hg
      clear hr hlo hhi hAR hg
      go_wp2_with fail
      refine bodyPost_ret (v := .tuple #[perV (k / 12) (k % 12) ((b - r) / 86400) ((b - r) % 86400), .nilIface]) (by simp [results, Tryd.results34, go_sem, perV, q4, r3]) rfl ⟨_, _, _, _, 0, rfl, .inr (.inr ⟨a1, a2, b1, b2, hab, rfl, _, _, _, _, _, _, k, r, HA.out, HBD.out, k1, by omega, HGG.out, HG.out, rfl, rfl, rfl, rfl⟩), ?_⟩
      repeat (first | with_reducible exact HB3.out | (with_reducible refine Below.alloc ?_ (by first | omega | (simp <;> omega)) _) | (with_reducible refine Below.setCell ?_ (by first | omega | (simp <;> omega)) _))
    · have hng : ∀ r', ¬ Good a b k r' := fun r' h => by
        obtain ⟨e1, e2⟩ := hAR.one h.1
        subst e1; subst e2
        exact hgood ⟨rfl, h.2⟩
      have hk0 : k ≠ 0 := fun h => by
        subst h
        exact hng a (good_zero HA.out hab)
      have HG2 : Hid (∀ j r', k - 1 < j → j ≤ 1000000 → ¬ Good a b j r') := Lib.hid fun j r' h1 h2 => by
        by_cases hj : j = k
        · subst hj; exact hng r'
        · exact HG.out j r' (by omega) h2
      clear hng hAR
      by_cases hx : x = 0
      · subst hx
        have hrb : ¬ r ≤ b := fun h => hgood ⟨rfl, h⟩
        clear hgood
        rw [errV_nil]
        go_wp2_with fail
        go_roundw
        case rel => exact ⟨k - 1, rfl, by omega, by omega, HG2, fun o => (q4 o).trans (r3 o), fun o => (p4 o).trans (f3 o), fun o => (q4' o).trans (r3' o), fun o => (p4' o).trans (f3' o), by omega, Lib.hid ⟨HW.out.1.call HBQ.out, HB3.out⟩⟩
        case measure => simp [intOf]; omega
      · rw [errV_hit hx]
        clear hgood
        go_wp2_with fail
        go_roundw
        case rel => exact ⟨k - 1, rfl, by omega, by omega, HG2, fun o => (q4 o).trans (r3 o), fun o => (p4 o).trans (f3 o), fun o => (q4' o).trans (r3' o), fun o => (p4' o).trans (f3' o), by omega, Lib.hid ⟨HW.out.1.call HBQ.out, HB3.out⟩⟩
        case measure => simp [intOf]; omega
set_option maxRecDepth 100000 in
set_option maxHeartbeats 2000000 in
theorem since_a (a b : Int) (w : World) (hr : RomanT w) (h : a < -345600000000 ∨ 345600086399 < a) : Calls Tryd.prog 34 #[.int .i64 a, .int .i64 b] w (SinPost a b errV w) := by
  have HR := Lib.hid hr; clear hr
  have HEa := Lib.hid (loc_out h)
  have HH := Lib.hid h; clear h
  go_enter Tryd.func34, Tryd.ntmps34
  go_wp2_with fail
  refine (ctell_all _ _ (by repeat (first | exact HR.out | (with_reducible refine RomanT.alloc ?_ _)))).mono ?_; rintro en w1 ⟨c, y, m, d, h, mi, s, rfl, hR1, hb1⟩
  clear hR1
  rw [HEa.out.1, errV_hit (show (4 : Int) ≠ 0 by decide)]
  unfold dateV clkV
  have hz1 := hb1.size
  simp only [World.size_alloc] at hz1
  obtain ⟨q1, p1⟩ := carry hb1 w.heap.size (by simp; omega)
  obtain ⟨q1', p1'⟩ := carry hb1 (w.heap.size + 1) (by simp)
  have hs1 : w.heap.size < w1.heap.size := by omega
  have hs1' : w.heap.size + 1 < w1.heap.size := by omega
  have HR1 := Lib.hid (RomanT.call ((HR.out.alloc _).alloc _) hb1)
  have HB1 := Lib.hid (offA (offA hb1)); clear hb1
  go_wp2_with fail
  refine bodyPost_ret (v := .tuple #[perV 0 0 0 0, errV 4]) (by simp [results, Tryd.results34, go_sem, perV, errV, q1, hs1]) rfl ⟨0, 0, 0, 0, 4, rfl, .inl ⟨by have := HH.out; omega, rfl, rfl, rfl, rfl, rfl⟩, ?_⟩
  repeat (first | with_reducible exact HB1.out | (with_reducible refine Below.alloc ?_ (by first | omega | (simp <;> omega)) _) | (with_reducible refine Below.setCell ?_ (by first | omega | (simp <;> omega)) _))
set_option maxRecDepth 100000 in
set_option maxHeartbeats 2000000 in
theorem since_b (a b : Int) (w : World) (hr : RomanT w) (a1 : -345600000000 ≤ a) (a2 : a ≤ 345600086399) (h : b < -345600000000 ∨ 345600086399 < b) : Calls Tryd.prog 34 #[.int .i64 a, .int .i64 b] w (SinPost a b errV w) := by
  have HR := Lib.hid hr; clear hr
  have HEa := Lib.hid (loc_in a1 a2)
  have HEb := Lib.hid (loc_out h)
  have HH := Lib.hid h; clear h
  go_enter Tryd.func34, Tryd.ntmps34
  go_wp2_with fail
  refine (ctell_all _ _ (by repeat (first | exact HR.out | (with_reducible refine RomanT.alloc ?_ _)))).mono ?_; rintro en w1 ⟨c, y, m, d, h, mi, s, rfl, hR1, hb1⟩
  clear hR1
  rw [HEa.out.1, errV_nil]
  unfold dateV clkV
  have hz1 := hb1.size
  simp only [World.size_alloc] at hz1
  obtain ⟨q1, p1⟩ := carry hb1 w.heap.size (by simp; omega)
  obtain ⟨q1', p1'⟩ := carry hb1 (w.heap.size + 1) (by simp)
  have hs1 : w.heap.size < w1.heap.size := by omega
  have hs1' : w.heap.size + 1 < w1.heap.size := by omega
  have HR1 := Lib.hid (RomanT.call ((HR.out.alloc _).alloc _) hb1)
  have HB1 := Lib.hid (offA (offA hb1)); clear hb1
  go_wp2_with fail
  refine (ctell_all _ _ (by repeat (first | exact HR1.out | (with_reducible refine RomanT.alloc ?_ _)))).mono ?_; rintro en w2 ⟨c', y', m', d', h', mi', s', rfl, hR2, hb2⟩
  clear hR2
  rw [HEb.out.1, errV_hit (show (4 : Int) ≠ 0 by decide)]
  unfold dateV clkV
  have hz2 := hb2.size
  simp only [World.size_alloc] at hz2
  obtain ⟨q2, p2⟩ := carry hb2 w.heap.size (by simp; omega)
  obtain ⟨q2', p2'⟩ := carry hb2 (w.heap.size + 1) (by simp; omega)
  have r2 : ∀ o, w2.cell? ⟨w.heap.size, o, none⟩ = (w.alloc (.cells #[.int .i64 0, .int .i64 0, .int .i64 0, .int .i64 0, .int .i64 0] 38)).cell? ⟨w.heap.size, o, none⟩ := fun o => (q2 o).trans ((cell_alloc (by simp; omega)).trans ((cell_alloc hs1).trans ((q1 o).trans (cell_alloc (by simp)))))
  have r2' : ∀ o, w2.cell? ⟨w.heap.size + 1, o, none⟩ = ((w.alloc (.cells #[.int .i64 0, .int .i64 0, .int .i64 0, .int .i64 0, .int .i64 0] 38)).alloc (.cells #[.int .i64 0, .int .i64 0, .int .i64 0, .int .i64 0, .int .i64 0] 38)).cell? ⟨w.heap.size + 1, o, none⟩ := fun o => (q2' o).trans ((cell_alloc (by simp; omega)).trans ((cell_alloc hs1').trans (q1' o)))
  have f2 : ∀ o, w2.frozen? ⟨w.heap.size, o, none⟩ = (w.alloc (.cells #[.int .i64 0, .int .i64 0, .int .i64 0, .int .i64 0, .int .i64 0] 38)).frozen? ⟨w.heap.size, o, none⟩ := fun o => (p2 o).trans ((frozen_alloc (by simp; omega)).trans ((frozen_alloc hs1).trans ((p1 o).trans (frozen_alloc (by simp)))))
  clear q2 q2' q1 q1' p2 p2' p1 p1'
  have hs2 : w.heap.size < w2.heap.size := by omega
  have hs2' : w.heap.size + 1 < w2.heap.size := by omega
  have HB2 := Lib.hid (thenB HB1.out (offA (offA hb2))); clear hb2
  go_wp2_with fail
  refine bodyPost_ret (v := .tuple #[perV 0 0 0 0, errV 4]) (by simp [results, Tryd.results34, go_sem, perV, errV, r2, hs2]) rfl ⟨0, 0, 0, 0, 4, rfl, .inl ⟨by have := HH.out; omega, rfl, rfl, rfl, rfl, rfl⟩, ?_⟩
  repeat (first | with_reducible exact HB2.out | (with_reducible refine Below.alloc ?_ (by first | omega | (simp <;> omega)) _) | (with_reducible refine Below.setCell ?_ (by first | omega | (simp <;> omega)) _))
set_option maxRecDepth 100000 in
set_option maxHeartbeats 2000000 in
theorem since_ab (a b : Int) (w : World) (hr : RomanT w) (a1 : -345600000000 ≤ a) (a2 : a ≤ 345600086399) (b1 : -345600000000 ≤ b) (b2 : b ≤ 345600086399) (hab : b < a) : Calls Tryd.prog 34 #[.int .i64 a, .int .i64 b] w (SinPost a b errV w) := by
  have HR := Lib.hid hr; clear hr
  have HEa := Lib.hid (loc_in a1 a2)
  have HEb := Lib.hid (loc_in b1 b2)
  go_enter Tryd.func34, Tryd.ntmps34
  go_wp2_with fail
  refine (ctell_all _ _ (by repeat (first | exact HR.out | (with_reducible refine RomanT.alloc ?_ _)))).mono ?_; rintro en w1 ⟨c, y, m, d, h, mi, s, rfl, hR1, hb1⟩
  clear hR1
  rw [HEa.out.1, errV_nil]
  unfold dateV clkV
  have hz1 := hb1.size
  simp only [World.size_alloc] at hz1
  obtain ⟨q1, p1⟩ := carry hb1 w.heap.size (by simp; omega)
  obtain ⟨q1', p1'⟩ := carry hb1 (w.heap.size + 1) (by simp)
  have hs1 : w.heap.size < w1.heap.size := by omega
  have hs1' : w.heap.size + 1 < w1.heap.size := by omega
  have HR1 := Lib.hid (RomanT.call ((HR.out.alloc _).alloc _) hb1)
  have HB1 := Lib.hid (offA (offA hb1)); clear hb1
  go_wp2_with fail
  refine (ctell_all _ _ (by repeat (first | exact HR1.out | (with_reducible refine RomanT.alloc ?_ _)))).mono ?_; rintro en w2 ⟨c', y', m', d', h', mi', s', rfl, hR2, hb2⟩
  clear hR2
  rw [HEb.out.1, errV_nil]
  unfold dateV clkV
  have hz2 := hb2.size
  simp only [World.size_alloc] at hz2
  obtain ⟨q2, p2⟩ := carry hb2 w.heap.size (by simp; omega)
  obtain ⟨q2', p2'⟩ := carry hb2 (w.heap.size + 1) (by simp; omega)
  have r2 : ∀ o, w2.cell? ⟨w.heap.size, o, none⟩ = (w.alloc (.cells #[.int .i64 0, .int .i64 0, .int .i64 0, .int .i64 0, .int .i64 0] 38)).cell? ⟨w.heap.size, o, none⟩ := fun o => (q2 o).trans ((cell_alloc (by simp; omega)).trans ((cell_alloc hs1).trans ((q1 o).trans (cell_alloc (by simp)))))
  have r2' : ∀ o, w2.cell? ⟨w.heap.size + 1, o, none⟩ = ((w.alloc (.cells #[.int .i64 0, .int .i64 0, .int .i64 0, .int .i64 0, .int .i64 0] 38)).alloc (.cells #[.int .i64 0, .int .i64 0, .int .i64 0, .int .i64 0, .int .i64 0] 38)).cell? ⟨w.heap.size + 1, o, none⟩ := fun o => (q2' o).trans ((cell_alloc (by simp; omega)).trans ((cell_alloc hs1').trans (q1' o)))
  have f2 : ∀ o, w2.frozen? ⟨w.heap.size, o, none⟩ = (w.alloc (.cells #[.int .i64 0, .int .i64 0, .int .i64 0, .int .i64 0, .int .i64 0] 38)).frozen? ⟨w.heap.size, o, none⟩ := fun o => (p2 o).trans ((frozen_alloc (by simp; omega)).trans ((frozen_alloc hs1).trans ((p1 o).trans (frozen_alloc (by simp)))))
  clear q2 q2' q1 q1' p2 p2' p1 p1'
  have hs2 : w.heap.size < w2.heap.size := by omega
  have hs2' : w.heap.size + 1 < w2.heap.size := by omega
  have HB2 := Lib.hid (thenB HB1.out (offA (offA hb2))); clear hb2
  go_wp2_with fail
  refine bodyPost_ret (v := .tuple #[perV 0 0 0 0, errV 7]) (by simp [results, Tryd.results34, go_sem, perV, errV, r2, hs2]) rfl ⟨0, 0, 0, 0, 7, rfl, .inr (.inl ⟨a1, a2, b1, b2, hab, rfl, rfl, rfl, rfl, rfl⟩), ?_⟩
  repeat (first | with_reducible exact HB2.out | (with_reducible refine Below.alloc ?_ (by first | omega | (simp <;> omega)) _) | (with_reducible refine Below.setCell ?_ (by first | omega | (simp <;> omega)) _))
theorem since_all (a b : Int) (w : World) (hr : RomanT w) : Calls Tryd.prog 34 #[.int .i64 a, .int .i64 b] w (SinPost a b errV w) := by
  rcases loc_ways a with h | ⟨a1, a2⟩
  · exact since_a a b w hr h
  · rcases loc_ways b with h | ⟨b1, b2⟩
    · exact since_b a b w hr a1 a2 h
    · rcases (show b < a ∨ a ≤ b by omega) with h | h
      · exact since_ab a b w hr a1 a2 b1 b2 h
      · exact since_ok a b w hr a1 a2 b1 b2 h
end Go.Proofs.YtpchkfnfipdilaaDoor
