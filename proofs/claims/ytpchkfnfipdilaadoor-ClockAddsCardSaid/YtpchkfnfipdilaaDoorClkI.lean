/- The law ClockAdds. -/
import Derived.Test.YtpchkfnfipdilaaDoorClkH
namespace Go.Proofs.YtpchkfnfipdilaaDoor
open Go.RowKit
set_option maxHeartbeats 1000000 in
theorem plainAdd (t Y M W D S : Int) (w : World) (hT : ErrT w) (hr : RomanT w) : Calls Tryd.prog 15 #[.int .i64 t, .agg #[.int .i64 Y, .int .i64 M, .int .i64 W, .int .i64 D, .int .i64 S]] w (AddPost t Y M W D S (.int .i64) w) := by
  have HT : Hid (ErrT w ∧ RomanT w) := Lib.hid ⟨hT, hr⟩; clear hT hr
  go_enter Tryd.func15, Tryd.ntmps15
  go_wp2_with fail
  refine (add_all _ _ _ _ _ _ _ (HT.out.2.alloc _)).mono ?_; rintro en w1 ⟨r, x, rfl, hR, hb1⟩
  have HR := Lib.hid hR; clear hR
  have hT1 : Hid (ErrT w1) := Lib.hid ((HT.out.1.alloc _).call hb1)
  have HB := Lib.hid (offA hb1); clear hb1
  go_wp2_with fail
  refine (tell_any _ _ hT1.out).mono ?_; rintro en w2 ⟨rfl, hb2⟩
  have HB2 := Lib.hid (thenB HB.out hb2); clear hb2
  go_wp2_with fail
  go_ret2
  exact ⟨r, x, rfl, HR.out, HB2.out⟩
set_option maxHeartbeats 1000000 in
theorem clockAdds_walk (t Y M W D S : Int) (w : World) (hT : ErrT w) (hr : RomanT w) (ht : InI t) : Calls Tryd.prog 4 #[.int .i64 t, .agg #[.int .i64 Y, .int .i64 M, .int .i64 W, .int .i64 D, .int .i64 S]] w fun e w' => e = .returned (.bool true) ∧ Below w.heap.size w w' := by
  have HT : Hid (ErrT w ∧ RomanT w ∧ InI t) := Lib.hid ⟨hT, hr, ht⟩; clear hT hr ht
  go_enter Tryd.func4, Tryd.ntmps4
  go_wp2_with fail
  refine (plainAdd _ _ _ _ _ _ _ (HT.out.1.alloc _) (HT.out.2.1.alloc _)).mono ?_; rintro en w1 ⟨r, x, rfl, hR, hb1⟩
  have hz1 := hb1.size
  simp only [World.size_alloc] at hz1
  obtain ⟨q1, p1⟩ := carry hb1 w.heap.size (by simp)
  have hs1 : w.heap.size < w1.heap.size := by omega
  have HB := Lib.hid (And.intro hR (offA hb1)); clear hb1 hR
  go_wp2_with fail
  refine (refAdd_all _ _ _ _ _ _ _ HT.out.2.2).mono ?_; rintro en w2 ⟨r', x', rfl, hR', hb2⟩
  obtain ⟨rfl, rfl⟩ := HB.out.1.one hR'
  clear hR'
  have HB2 := Lib.hid (thenB HB.out.2 hb2); clear hb2
  go_wp2_with fail
  all_goals go_ret
  all_goals exact ⟨retB (by simp), HB2.out⟩
end Go.Proofs.YtpchkfnfipdilaaDoor
