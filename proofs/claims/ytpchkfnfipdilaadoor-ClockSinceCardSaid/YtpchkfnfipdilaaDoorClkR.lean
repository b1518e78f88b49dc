/- The law ClockRound: the period since a time, added to it, is the time; one month more is later. -/
import Derived.Test.YtpchkfnfipdilaaDoorClkJ
namespace Go.Proofs.YtpchkfnfipdilaaDoor
open Go.RowKit
set_option maxHeartbeats 1000000 in
theorem plainAddR (t Y M W D S : Int) (w : World) (hT : ErrT w) (hr : RomanT w) : Calls Tryd.prog 15 #[.int .i64 t, .agg #[.int .i64 Y, .int .i64 M, .int .i64 W, .int .i64 D, .int .i64 S]] w (AddPost t Y M W D S (.int .i64) w) := by
  have HT : Hid (ErrT w ∧ RomanT w) := Lib.hid ⟨hT, hr⟩; clear hT hr
  go_enter Tryd.func15, Tryd.ntmps15
  go_wp2_with fail
  refine (add_all _ _ _ _ _ _ _ (HT.out.2.alloc _)).mono ?_; rintro en w1 ⟨r, x, rfl, hR, hb1⟩
  have HR := Lib.hid hR; clear hR
  have hT1 : Hid (ErrT w1) := Lib.hid ((HT.out.1.alloc _).call hb1)
  have HB := Lib.hid (offA hb1); clear hb1
  go_wp2_with fail
  refine (tell_any _ _ hT1.out).mono ?_; rintro en w2 ⟨rfl, hb2⟩
  have HB2 := Lib.hid (thenB HB.out hb2); clear hb2
  go_wp2_with fail
  go_ret2
  exact ⟨r, x, rfl, HR.out, HB2.out⟩
set_option maxHeartbeats 2000000 in
theorem plainSince (a b : Int) (w : World) (hT : ErrT w) (hr : RomanT w) : Calls Tryd.prog 17 #[.int .i64 a, .int .i64 b] w (SinPost a b (.int .i64) w) := by
  have hlt := hT.lt
  have HT : Hid (ErrT w ∧ RomanT w) := Lib.hid ⟨hT, hr⟩; clear hT hr
  go_enter Tryd.func17, Tryd.ntmps17
  go_wp2_with fail
  refine (since_all _ _ _ (HT.out.2.alloc _)).mono ?_; rintro en w1 ⟨yy, mm, dd, ss, x, rfl, hR, hb1⟩
  unfold perV
  have HRR := Lib.hid hR; clear hR
  have hz := hb1.size
  simp only [World.size_alloc] at hz
  obtain ⟨q1, p1⟩ := carry hb1 w.heap.size (by simp)
  have hT1 := Lib.hid ((HT.out.1.alloc _).call hb1)
  have HB := Lib.hid hb1; clear hb1
  go_wp2_with fail
  go_region_with (go_at_call 20; refine (tell_any _ _ ?_).mono ?_; (repeat (first | exact hT1.out | apply ErrT.drew | apply ErrT.alloc)); rintro e w2 ⟨rfl, hb2⟩; have r2 := (fun (o : Nat) => (offD hb2).cell (p := ⟨w1.heap.size, o, none⟩) (by simp)); have q2 := (fun (o : Nat) => (offA (offD hb2)).cell (p := ⟨w.heap.size, o, none⟩) hz); have p2 := (fun (o : Nat) => (offA (offD hb2)).frozen (p := ⟨w.heap.size, o, none⟩) hz))
  all_goals (try go_wp2)
  all_goals refine bodyPost_ret (v := .tuple #[perV yy mm dd ss, .int .i64 x]) (by simp [results, Tryd.results17, go_sem, q1, q2, perV]) rfl ?_
  all_goals
    refine ⟨yy, mm, dd, ss, x, rfl, HRR.out, ?_⟩
    have hA := offA HB.out
    have hB := (offA (offD hb2))
    have hC := hA.trans (hB.mono (by omega))
    repeat (first | with_reducible exact hC | (with_reducible refine Below.setCell ?_ (by simp) _) | (with_reducible refine Below.alloc ?_ (by simp <;> omega) _) | (with_reducible refine Below.drew ?_))
/-- What is known of the period between two times. -/
theorem SinR.cases {a b yy mm dd ss x : Int} (h : SinR a b yy mm dd ss x) : (x ≠ 0 ∧ yy = 0 ∧ mm = 0 ∧ dd = 0 ∧ ss = 0) ∨ (x = 0 ∧ -345600000000 ≤ a ∧ a ≤ 345600086399 ∧ (0 ≤ yy ∧ yy ≤ 50000) ∧ (0 ≤ mm ∧ mm ≤ 11) ∧ (0 ≤ dd ∧ dd ≤ 30) ∧ (0 ≤ ss ∧ ss < 86400) ∧ AddR a yy mm 0 dd ss b 0 ∧ ∀ r' x', AddR a yy (mm + 1) 0 0 0 r' x' → x' ≠ 0 ∨ b < r') := by
  rcases h with ⟨g, rfl, rfl, rfl, rfl, rfl⟩ | ⟨g1, g2, g3, g4, g5, rfl, rfl, rfl, rfl, rfl⟩ | ⟨g1, g2, g3, g4, g5, rfl, y, m, d, y', m', d', n, r, ha, hb, n1, n2, hg, hm, rfl, rfl, rfl, rfl⟩
  · exact .inl ⟨by decide, rfl, rfl, rfl, rfl⟩
  · exact .inl ⟨by decide, rfl, rfl, rfl, rfl⟩
  · have h30 := rest_days ha hb n1 (by omega) hg hm
    have hab := add_back ha g3 g4 n1 (by omega) hg h30
    have hle := hg.2
    exact .inr ⟨rfl, g1, g2, ⟨by omega, by omega⟩, ⟨by omega, by omega⟩, ⟨by omega, h30⟩, ⟨by omega, by omega⟩, hab, fun r' x' hr => add_more n1 (by omega) g1 g2 hm hr⟩
set_option maxRecDepth 100000 in
set_option maxHeartbeats 4000000 in
theorem clockRound_walk (a b : Int) (w : World) (hT : ErrT w) (hr : RomanT w) : Calls Tryd.prog 6 #[.int .i64 a, .int .i64 b] w fun e w' => e = .returned (.bool true) ∧ Below w.heap.size w w' := by
  have HT : Hid (ErrT w ∧ RomanT w) := Lib.hid ⟨hT, hr⟩; clear hT hr
  go_enter Tryd.func6, Tryd.ntmps6
  go_wp2_with fail
  refine (plainSince _ _ _ HT.out.1 HT.out.2).mono ?_; rintro en w1 ⟨yy, mm, dd, ss, x, rfl, hR, hb1⟩
  unfold perV
  have hz1 := hb1.size
  have HT1 : Hid (ErrT w1 ∧ RomanT w1) := Lib.hid ⟨HT.out.1.call hb1, HT.out.2.call hb1⟩
  have HB1 := Lib.hid hb1; clear hb1
  rcases hR.cases with ⟨hx, rfl, rfl, rfl, rfl⟩ | ⟨rfl, a1, a2, ⟨yb1, yb2⟩, ⟨mb1, mb2⟩, ⟨db1, db2⟩, ⟨sb1, sb2⟩, hadd, hmore⟩
  · clear hR
    go_wp2_with fail
    all_goals go_ret
    all_goals
      refine ⟨retB (by simp), ?_⟩
      repeat (first | with_reducible exact HB1.out | (with_reducible refine Below.alloc ?_ (by first | omega | (simp <;> omega)) _))
  · have HC := Lib.hid (And.intro hadd hmore); clear hR hadd hmore
    go_wp2_with fail
    refine (plainAddR _ _ _ _ _ _ _ (HT1.out.1.alloc _) (HT1.out.2.alloc _)).mono ?_; rintro en w2 ⟨r2, x2, rfl, hR2, hb2⟩
    obtain ⟨rfl, rfl⟩ := hR2.one HC.out.1
    clear hR2
    have hz2 := hb2.size
    simp only [World.size_alloc] at hz2
    obtain ⟨q2, p2⟩ := carry hb2 w1.heap.size (by simp)
    have hs2 : w1.heap.size < w2.heap.size := by omega
    have HT2 : Hid (ErrT w2 ∧ RomanT w2) := Lib.hid ⟨(HT1.out.1.alloc _).call hb2, (HT1.out.2.alloc _).call hb2⟩
    have HB2 := Lib.hid (thenB HB1.out (offA hb2)); clear hb2
    go_wp2_with fail
    refine (plainAddR _ _ _ _ _ _ _ HT2.out.1 HT2.out.2).mono ?_; rintro en w3 ⟨r3, x3, rfl, hR3, hb3⟩
    have hor := HC.out.2 _ _ hR3
    clear hR3
    have HB3 := Lib.hid (thenB HB2.out hb3); clear hb3
    by_cases hx3 : x3 = 0
    · have hlt : r2 < r3 := by rcases hor with h | h; · exact absurd hx3 h
                               exact h
      clear hor
      subst hx3
      go_wp2_with fail
      all_goals go_ret
      all_goals exact ⟨retB (by simp), HB3.out⟩
    · clear hor
      go_wp2_with fail
      all_goals go_ret
      all_goals exact ⟨retB (by simp), HB3.out⟩
end Go.Proofs.YtpchkfnfipdilaaDoor
