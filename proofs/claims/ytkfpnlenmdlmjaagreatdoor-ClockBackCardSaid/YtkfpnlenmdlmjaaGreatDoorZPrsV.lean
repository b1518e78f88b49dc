/- clock.Parse, all its ways; plain.ClockParse (without the document: for ClockBack). -/
import Derived.Test.YtkfpnlenmdlmjaaGreatDoorZPrsT
import Derived.Test.YtkfpnlenmdlmjaaGreatDoorZG9
import Derived.Test.YtkfpnlenmdlmjaaGreatDoorZQTail
namespace Go.Proofs.YtkfpnlenmdlmjaaGreatDoor
open Go.RowKit Scm
theorem tell_is {B : Nat} {x pl : Int} {v : Value} {w : World} (h : ErrIs B x pl v w) (hT : ErrT w) : Calls Tryz.prog 20 #[v] w fun e w' => e = .returned (.int .i64 x) ∧ Below w.heap.size w w' := by
  rcases h with ⟨rfl, _, rfl⟩ | ⟨_, _, rfl⟩ | ⟨_, _, p, rfl, h0, _⟩
  · exact tell_nil w
  · exact tell_hit x w hT
  · exact tell_at ⟨p, 0, none⟩ x w hT h0
theorem where_is {B : Nat} {x pl : Int} {v : Value} {w : World} (h : ErrIs B x pl v w) (hT : ErrT w) : Calls Tryz.prog 21 #[v] w fun e w' => e = .returned (.int .i64 pl) ∧ Below w.heap.size w w' := by
  rcases h with ⟨_, rfl, rfl⟩ | ⟨_, rfl, rfl⟩ | ⟨_, _, p, rfl, _, h1, _⟩
  · exact where_nil w
  · exact where_errno x w hT
  · exact where_at p 0 pl w hT h1
/-- What plain.ClockParse answers. -/
def PlPost (P : StP) (w : World) (e : Ending) (w' : World) : Prop :=
  e = .returned (.tuple #[.agg #[.int .i64 P.loc, .int .i64 P.zone, .int .i64 P.off], .int .i64 P.err, .int .i64 P.place]) ∧ Below w.heap.size w w'
set_option maxRecDepth 100000 in
set_option maxHeartbeats 4000000 in
theorem plainParseS_any (s : ByteArray) (w : World) (hT : ErrT w) (hr : RomanT w) (hs : s.size ≤ 9223372036854775807) :
    Calls Tryz.prog 7 #[.string s] w (PlPost (parP s) w) := by
  have b1 : Below w.heap.size w (w.alloc (.cells #[.int .i64 0, .int .i64 0, .int .i64 0] 24)) := (Below.refl _ _).alloc (Nat.le_refl _) _
  have hC := cparseS_any s (w.alloc (.cells #[.int .i64 0, .int .i64 0, .int .i64 0] 24)) (hr.call b1) hs
  obtain ⟨P, hP⟩ : ∃ P, parP s = P := ⟨_, rfl⟩
  rw [hP] at hC ⊢
  have HT := Lib.hid (hT.call b1)
  have HB0 := Lib.hid b1
  have HL0 := Lib.hid (L3.new w 24)
  obtain ⟨l, z, o, x, pl⟩ := P
  unfold StPost2 at hC
  have CP := Lib.hid hC
  clear hC hP hT hr hs b1
  go_enter Tryz.func7, Tryz.ntmps7
  go_wp2_with (go_at_call 19; (with_reducible refine CP.out.mono ?_); rintro e w1 ⟨hb1, v, rfl, hX⟩; have HX1 := Lib.hid hX; have HB1 := Lib.hid hb1; clear hX hb1)
  obtain ⟨W, hW⟩ : ∃ x, w1.alloc (.cells #[.int .i64 l, .int .i64 z, .int .i64 o] 24) = x := ⟨_, rfl⟩
  have HBW : Hid (Below w1.heap.size w1 W) := Lib.hid (by rw [← hW]; exact (Below.refl _ _).alloc (Nat.le_refl _) _)
  have HLW : Hid (L3 w.heap.size 0 0 0 W) := Lib.hid ((HL0.out.call HB1.out).call HBW.out)
  have HTW : Hid (ErrT W) := Lib.hid ((HT.out.call HB1.out).call HBW.out)
  have HXW := Lib.hid (HX1.out.call HBW.out)
  have z0 : W.cell? ⟨w1.heap.size, 0, none⟩ = some (.int .i64 l) := by rw [← hW]; simp
  have z1 : W.cell? ⟨w1.heap.size, 1, none⟩ = some (.int .i64 z) := by rw [← hW]; simp
  have z2 : W.cell? ⟨w1.heap.size, 2, none⟩ = some (.int .i64 o) := by rw [← hW]; simp
  have HWW : Hid (Below w.heap.size w W) := Lib.hid (thenB (thenB HB0.out HB1.out) HBW.out)
  rw [hW]
  clear hW
  have y0 := cell_regrown z0
  have y1 := cell_regrown z1
  have y2 := cell_regrown z2
  have CTL : Hid (∀ w0, Below W.heap.size W w0 → Calls Tryz.prog 20 #[v] w0 fun e w' => e = .returned (.int .i64 x) ∧ Below w0.heap.size w0 w') := Lib.hid fun w0 hb => tell_is (HXW.out.call hb) (HTW.out.call hb)
  have CWH : Hid (∀ w0, Below W.heap.size W w0 → Calls Tryz.prog 21 #[v] w0 fun e w' => e = .returned (.int .i64 pl) ∧ Below w0.heap.size w0 w') := Lib.hid fun w0 hb => where_is (HXW.out.call hb) (HTW.out.call hb)
  refine wp_region_below_tail 5 (by kernel_rfl) (by kernel_rfl) ?_
  simp only [List.take_succ_cons, List.take_zero, List.drop_succ_cons, List.drop_zero]
  repeat (go_big_quiet_step ((first | (go_at_call 20; exact Calls.regrown_of (CTL.out _ (below_regrown _ _ _))) | (go_at_call 21; exact Calls.regrown_of (CWH.out _ (below_regrown _ _ _))))))
  refine wpQuiet_nil ?_
  intro w7 hb7
  have HL7 := Lib.hid (HLW.out.call hb7)
  have HB7 := Lib.hid (thenB HWW.out hb7)
  clear hb7 y0 y1 y2 z0 z1 z2
  obtain ⟨-, ⟨c0, f0⟩, ⟨c1, f1⟩, ⟨c2, f2⟩⟩ := HL7.out
  go_wp2_with fail
  have hq := ((HL7.out.put0 l).put1 z).put2 o
  exact bodyPost_ret (v := .tuple #[.agg #[.int .i64 l, .int .i64 z, .int .i64 o], .int .i64 x, .int .i64 pl]) (by simp [results, Tryz.results7, go_sem, hq.2.1.1, hq.2.2.1.1, hq.2.2.2.1]) rfl ⟨rfl, ((HB7.out.setCell (p := ⟨w.heap.size, 0, none⟩) (Nat.le_refl _) _).setCell (p := ⟨w.heap.size, 1, none⟩) (Nat.le_refl _) _).setCell (p := ⟨w.heap.size, 2, none⟩) (Nat.le_refl _) _⟩
end Go.Proofs.YtkfpnlenmdlmjaaGreatDoor
