/- Adding periods: the document's. -/
import Derived.Test.YtpchkfnfipdilaaDoorClkB
import Derived.Test.YtpchkfnfipdilaaDoorClkP
namespace Go.Proofs.YtpchkfnfipdilaaDoor
open Go.RowKit
def SmallPost (Y M W D S : Int) (w : World) (e : Ending) (w' : World) : Prop := ((e = .returned (.bool true) ∧ Small (pf Y M W D S)) ∨ (e = .returned (.bool false) ∧ ¬ Small (pf Y M W D S))) ∧ Below w.heap.size w w'
set_option maxRecDepth 100000 in
set_option maxHeartbeats 2000000 in
theorem small_any (Y M W D S : Int) (w : World) : Calls Tryd.prog 30 #[.agg #[.int .i64 Y, .int .i64 M, .int .i64 W, .int .i64 D, .int .i64 S]] w (SmallPost Y M W D S w) := by
  go_enter Tryd.func30, Tryd.ntmps30
  go_wp2_with fail
  have hc : Hid (∀ i, i < 5 → ((w.alloc (.cells #[.int .i64 Y, .int .i64 M, .int .i64 W, .int .i64 D, .int .i64 S] 38)).alloc (.cells #[.int .i64 Y, .int .i64 M, .int .i64 W, .int .i64 D, .int .i64 S] 3)).cell? ⟨w.heap.size + 1, i, none⟩ = some (.int .i64 (pf Y M W D S i))) :=
    Lib.hid fun i hi => by
      have := five_cells Y M W D S (w.alloc (.cells #[.int .i64 Y, .int .i64 M, .int .i64 W, .int .i64 D, .int .i64 S] 38)) 3 i hi
      rw [World.size_alloc] at this
      exact this
  go_loop [17] (fun i => ∃ k : Nat, k ≤ 5 ∧ i = .int .i64 k ∧ Hid (∀ i, i < k → -1000000000000 ≤ pf Y M W D S i ∧ pf Y M W D S i ≤ 1000000000000)) (fun i => 5 - (intOf i).toNat)
  case atStart => exact ⟨0, by omega, rfl, Lib.hid (fun i hi => absurd hi (Nat.not_lt_zero i))⟩
  case round =>
    obtain ⟨k, hk, rfl, HS⟩ := hrel
    by_cases hlt : k < 5
    · have hcell := hc.out k hlt
      obtain ⟨F, hF⟩ : ∃ F, pf Y M W D S k = F := ⟨_, rfl⟩
      rw [hF] at hcell
      have HF := Lib.hid hF; clear hF
      rcases (show F < -1000000000000 ∨ (¬ F < -1000000000000 ∧ 1000000000000 < F) ∨ (-1000000000000 ≤ F ∧ F ≤ 1000000000000) by omega) with g | ⟨g1, g⟩ | ⟨g1, g2⟩
      · go_wp2_with fail
        go_ret
        exact ⟨.inr ⟨rfl, fun h => by have := h k hlt; rw [HF.out] at this; omega⟩, ((Below.refl _ _).alloc (by omega) _).alloc (by simp) _⟩
      · go_wp2_with fail
        go_ret
        exact ⟨.inr ⟨rfl, fun h => by have := h k hlt; rw [HF.out] at this; omega⟩, ((Below.refl _ _).alloc (by omega) _).alloc (by simp) _⟩
      · have HS2 : Hid (∀ i, i < k + 1 → -1000000000000 ≤ pf Y M W D S i ∧ pf Y M W D S i ≤ 1000000000000) := by
          refine Lib.hid fun i hi => ?_
          by_cases h : i = k
          · rw [h, HF.out]; exact ⟨g1, g2⟩
          · exact HS.out i (by omega)
        go_wp2_with fail
        go_round
        case rel => exact ⟨k + 1, by omega, by go_num, HS2⟩
        case measure => simp [intOf]; omega
    · obtain rfl : k = 5 := by omega
      go_wp2_with fail
      go_ret
      exact ⟨.inl ⟨rfl, HS.out⟩, ((Below.refl _ _).alloc (by omega) _).alloc (by simp) _⟩
end Go.Proofs.YtpchkfnfipdilaaDoor
