/- The law ClockParts. -/
import Derived.Test.YtpchkfnfipdilaaDoorClkB
namespace Go.Proofs.YtpchkfnfipdilaaDoor
open Go.RowKit
set_option maxHeartbeats 2000000 in
theorem plainTell (t : Int) (w : World) (hT : ErrT w) (hr : RomanT w) : Calls Tryd.prog 13 #[.int .i64 t] w (TellPost t (.int .i64 (locE t)) w) := by
  have hlt := hT.lt
  have HT : Hid (ErrT w ∧ RomanT w) := Lib.hid ⟨hT, hr⟩; clear hT hr
  go_enter Tryd.func13, Tryd.ntmps13
  go_wp2_with fail
  refine (ctell_all _ _ (by repeat (first | exact HT.out.2 | (with_reducible refine RomanT.alloc ?_ _)))).mono ?_; rintro en w1 ⟨a, y, m, d, h, mi, s, rfl, hR, hb1⟩
  unfold dateV clkV
  have HRR := Lib.hid hR; clear hR
  have hz := hb1.size
  simp only [World.size_alloc] at hz
  obtain ⟨q1, p1⟩ := carry hb1 w.heap.size (by simp; omega)
  obtain ⟨q3, p3⟩ := carry hb1 (w.heap.size + 1) (by simp)
  have hs1 : w.heap.size < w1.heap.size := by omega
  have hs2 : w.heap.size + 1 < w1.heap.size := by omega
  have hT1 := Lib.hid (((HT.out.1.alloc _).alloc _).call hb1)
  have HB := Lib.hid (offA (offA hb1)); clear hb1
  go_wp2_with fail
  go_region_with (go_at_call 20; refine (tell_any _ _ ?_).mono ?_; (repeat (first | exact hT1.out | apply ErrT.drew | apply ErrT.alloc)); rintro e w2 ⟨rfl, hb2⟩; have r2 := (fun (o : Nat) => (offD hb2).cell (p := ⟨w1.heap.size, o, none⟩) (by simp; omega)); have r3 := (fun (o : Nat) => (offD hb2).cell (p := ⟨w1.heap.size + 1, o, none⟩) (by simp)); have q2 := (fun (o : Nat) => (offA (offA (offD hb2))).cell (p := ⟨w.heap.size, o, none⟩) hs1); have p2 := (fun (o : Nat) => (offA (offA (offD hb2))).frozen (p := ⟨w.heap.size, o, none⟩) hs1); have q4 := (fun (o : Nat) => (offA (offA (offD hb2))).cell (p := ⟨w.heap.size + 1, o, none⟩) hs2); have p4 := (fun (o : Nat) => (offA (offA (offD hb2))).frozen (p := ⟨w.heap.size + 1, o, none⟩) hs2))
  all_goals (try go_wp2)
  all_goals refine bodyPost_ret (v := .tuple #[dateV a y m d, clkV h mi s, .int .i64 (locE t)]) (by simp [results, Tryd.results13, go_sem, q1, q2, q3, q4, dateV, clkV]) rfl ?_
  all_goals
    refine ⟨a, y, m, d, h, mi, s, rfl, HRR.out, ?_⟩
    have hC := HB.out.trans ((offA (offA (offD hb2))).mono (by omega))
    repeat (first | with_reducible exact hC | (with_reducible refine Below.setCell ?_ (by simp) _) | (with_reducible refine Below.alloc ?_ (by simp <;> omega) _) | (with_reducible refine Below.drew ?_))
set_option maxRecDepth 100000 in
set_option maxHeartbeats 4000000 in
theorem clockParts_walk (t d s h m sc : Int) (w : World) (hT : ErrT w) (hr : RomanT w) (ht : InI t) : Calls Tryd.prog 3 #[.int .i64 t, .int .i64 d, .int .i64 s, .agg #[.int .i64 h, .int .i64 m, .int .i64 sc]] w fun e w' => e = .returned (.bool true) ∧ Below w.heap.size w w' := by
  have HT : Hid (ErrT w ∧ RomanT w ∧ InI t) := Lib.hid ⟨hT, hr, ht⟩; clear hT hr ht
  go_enter Tryd.func3, Tryd.ntmps3
  go_wp2_with fail
  refine (plainSplit _ _ (HT.out.1.alloc _)).mono ?_; rintro en w1 ⟨rfl, hb1⟩
  have hz1 := hb1.size
  simp only [World.size_alloc] at hz1
  obtain ⟨q1, p1⟩ := carry hb1 w.heap.size (by simp)
  have hs1 : w.heap.size < w1.heap.size := by omega
  have HT1 : Hid (ErrT w1 ∧ RomanT w1) := Lib.hid ⟨(HT.out.1.alloc _).call hb1, (HT.out.2.1.alloc _).call hb1⟩
  have HB1 := Lib.hid (offA hb1); clear hb1
  go_wp2_with fail
  refine (refSplit_all _ _ HT.out.2.2).mono ?_; rintro en w' ⟨rfl, rfl⟩
  go_wp2_with fail
  refine (plainJoin _ _ _ HT1.out.1).mono ?_; rintro en w2 ⟨rfl, hb2⟩
  have hz2 := hb2.size
  obtain ⟨q2, p2⟩ := carry hb2 w.heap.size hs1
  have hs2 : w.heap.size < w2.heap.size := by omega
  have HT2 : Hid (ErrT w2 ∧ RomanT w2) := Lib.hid ⟨HT1.out.1.call hb2, HT1.out.2.call hb2⟩
  have HB2 := Lib.hid (thenB HB1.out hb2); clear hb2
  go_wp2_with fail
  refine (refJoin_all _ _ _).mono ?_; rintro en w' ⟨rfl, rfl⟩
  go_wp2_with fail
  refine (plainCof _ _ _ _ _ HT2.out.1).mono ?_; rintro en w3 ⟨rfl, hb3⟩
  have hz3 := hb3.size
  obtain ⟨q3, p3⟩ := carry hb3 w.heap.size hs2
  have hs3 : w.heap.size < w3.heap.size := by omega
  have HT3 : Hid (ErrT w3 ∧ RomanT w3) := Lib.hid ⟨HT2.out.1.call hb3, HT2.out.2.call hb3⟩
  have HB3 := Lib.hid (thenB HB2.out hb3); clear hb3
  go_wp2_with fail
  refine (refCof_all _ _ _ _ _).mono ?_; rintro en w4 ⟨rfl, hb4⟩
  have hz4 := hb4.size
  have HT4 : Hid (ErrT w4 ∧ RomanT w4) := Lib.hid ⟨HT3.out.1.call hb4, HT3.out.2.call hb4⟩
  have HB4 := Lib.hid (thenB HB3.out hb4); clear hb4
  go_wp2_with fail
  refine (plainTell _ _ HT4.out.1 HT4.out.2).mono ?_; rintro en w5 ⟨a, y, mo, dd, h1, m1, s1, rfl, hR, hb5⟩
  unfold dateV clkV
  have HRR := Lib.hid hR; clear hR
  have hz5 := hb5.size
  have HB5 := Lib.hid (thenB HB4.out hb5); clear hb5
  go_wp2_with fail
  refine (refTell_all _ _ HT.out.2.2).mono ?_; rintro en w6 ⟨a', y', mo', dd', h1', m1', s1', rfl, hR', hb6⟩
  obtain ⟨rfl, rfl, rfl, rfl, rfl, rfl, rfl⟩ := HRR.out.one hR'
  clear hR'
  unfold dateV clkV
  have hz6 := hb6.size
  simp only [World.size_alloc] at hz6
  obtain ⟨q6, p6⟩ := carry hb6 w5.heap.size (by simp; omega)
  obtain ⟨q7, p7⟩ := carry hb6 (w5.heap.size + 1) (by simp)
  have hs6 : w5.heap.size < w6.heap.size := by omega
  have hs7 : w5.heap.size + 1 < w6.heap.size := by omega
  have HB6 := Lib.hid (thenB HB5.out (offA (offA hb6))); clear hb6
  go_wp2_with fail
  all_goals go_ret
  all_goals exact ⟨retB (by simp), ((HB6.out.alloc (by omega) _).alloc (by simp; omega) _)⟩
end Go.Proofs.YtpchkfnfipdilaaDoor
