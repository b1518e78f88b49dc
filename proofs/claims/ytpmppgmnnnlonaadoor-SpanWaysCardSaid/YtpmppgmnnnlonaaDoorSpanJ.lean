/- The law SpanWays. -/
import Derived.Test.YtpmppgmnnnlonaaDoorSpanI
namespace Go.Proofs.YtpmppgmnnnlonaaDoor
open Go.RowKit
set_option maxRecDepth 100000 in
set_option maxHeartbeats 4000000 in
theorem spanWays_walk (a b c d p q : Int) (w : World) (hT : ErrT w) : Calls Tryd.prog 4 #[.agg #[.int .i64 a, .int .i64 b], .agg #[.int .i64 c, .int .i64 d], .int .i64 p, .int .i64 q] w fun e w' => e = .returned (.bool true) ∧ Below w.heap.size w w' := by
  have HT := Lib.hid hT; clear hT
  go_enter Tryd.func4, Tryd.ntmps4
  go_wp2_with fail
  have HA := Lib.hid ((Two.new w a b 23).alloc (.cells #[.int .i64 c, .int .i64 d] 23))
  have HB := Lib.hid (Two.new (w.alloc (.cells #[.int .i64 a, .int .i64 b] 23)) c d 23)
  refine (plainOf_any _ _ _ _ _ ((HT.out.alloc _).alloc _)).mono ?_; rintro e w1 ⟨rfl, hb1⟩
  have HA1 := HA.out.call hb1
  have HB1 := HB.out.call hb1
  simp only [World.size_alloc] at HB1
  have HT1 := Lib.hid (((HT.out.alloc _).alloc _).call hb1)
  have HW1 := Lib.hid (offA (offA hb1)); clear hb1 HA HB
  obtain ⟨a0, a1, a2⟩ := HA1
  obtain ⟨b0, b1, b2⟩ := HB1
  go_wp2_with fail
  refine (rof_any _ _ _ _ _).mono ?_; rintro e w2 ⟨rfl, hb2⟩
  have HT2 := Lib.hid (HT1.out.call hb2)
  have HW2 := Lib.hid (thenB HW1.out hb2); clear hb2 a0 a1 a2 b0 b1 b2
  go_wp2_with fail
  refine (plainBack_any _ _ HT2.out).mono ?_; rintro e w3 ⟨rfl, hb3⟩
  have HT3 := Lib.hid (HT2.out.call hb3)
  have HW3 := Lib.hid (thenB HW2.out hb3); clear hb3
  go_wp2_with fail
  refine (rback_any _ _).mono ?_; rintro e w4 ⟨rfl, hb4⟩
  have HT4 := Lib.hid (HT3.out.call hb4)
  have HW4 := Lib.hid (thenB HW3.out hb4); clear hb4
  go_wp2_with fail
  refine (plainJoin_any _ _ _ HT4.out).mono ?_; rintro e w5 ⟨rfl, hb5⟩
  have HW5 := Lib.hid (thenB HW4.out hb5); clear hb5
  go_wp2_with fail
  refine (joinSets_any _ _ _).mono ?_; rintro e w6 ⟨rfl, hb6⟩
  have HW6 := Lib.hid (thenB HW5.out hb6); clear hb6
  go_wp2_with fail
  obtain ⟨m, hm⟩ : ∃ m, cntN 13 (p % 8192).toNat = m := ⟨_, rfl⟩
  have HM := Lib.hid hm; clear hm
  refine (plainCount_any p _).mono ?_; rintro e w' ⟨rfl, rfl⟩
  rw [HM.out]
  go_wp2_with fail
  refine (rcount_any p _).mono ?_; rintro e w' ⟨rfl, rfl⟩
  rw [HM.out]
  go_wp2_with fail
  go_ret
  exact ⟨retB (by simp), HW6.out⟩
end Go.Proofs.YtpmppgmnnnlonaaDoor
