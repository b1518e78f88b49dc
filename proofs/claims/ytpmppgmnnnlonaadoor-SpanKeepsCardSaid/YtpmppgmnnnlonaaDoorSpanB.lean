/- Sets of ways: asking for one, whether a set may be. -/
import Derived.Test.YtpmppgmnnnlonaaDoorSpanA
import Derived.Outline
namespace Go.Proofs.YtpmppgmnnnlonaaDoor
open Go.RowKit
theorem has_bool {s k : Nat} (h : bits .and .i64 ((s : Int) / 2 ^ k) 1 = if s.testBit k = true then 1 else 0) : (bits .and .i64 ((s : Int) / 2 ^ k) 1 == 1) = s.testBit k := by
  rw [h]; cases s.testBit k <;> rfl
set_option maxHeartbeats 400000 in
theorem has_any (s k : Nat) (w : World) (hs : s < 8192) (hk : k < 13) : Calls Tryd.prog 50 #[.int .i64 (s : Int), .int .i64 (k : Int)] w fun e w' => e = .returned (.bool (s.testBit k)) ∧ w' = w := by
  have hb := Lib.hid (has_bool (set_has s k hs))
  go_enter Tryd.func50, Tryd.ntmps50
  go_wp2
  go_ret
  exact ⟨retB hb.out, rfl⟩
set_option maxHeartbeats 400000 in
theorem in_any (s k : Nat) (w : World) (hs : s < 8192) (hk : k < 13) : Calls Tryd.prog 33 #[.int .i64 (s : Int), .int .i64 (k : Int)] w fun e w' => e = .returned (.bool (s.testBit k)) ∧ w' = w := by
  have hb := Lib.hid (has_bool (set_has s k hs))
  go_enter Tryd.func33, Tryd.ntmps33
  go_wp2
  go_ret
  exact ⟨retB hb.out, rfl⟩
set_option maxHeartbeats 400000 in
theorem setOK_yes (s : Int) (w : World) (h1 : 0 ≤ s) (h2 : s ≤ 8191) : Calls Tryd.prog 32 #[.int .i64 s] w fun e w' => e = .returned (.bool true) ∧ w' = w := by
  go_enter Tryd.func32, Tryd.ntmps32
  go_wp2
  go_ret
  exact ⟨rfl, rfl⟩
set_option maxHeartbeats 400000 in
theorem setOK_no (s : Int) (w : World) (h : s < 0 ∨ 8191 < s) : Calls Tryd.prog 32 #[.int .i64 s] w fun e w' => e = .returned (.bool false) ∧ w' = w := by
  rcases (show s < 0 ∨ (0 ≤ s ∧ 8191 < s) by omega) with h1 | ⟨h1, h2⟩
  · have h0 : ¬ 0 ≤ s := by omega
    clear h
    go_enter Tryd.func32, Tryd.ntmps32
    go_wp2
    go_ret
    exact ⟨rfl, rfl⟩
  · have h0 : ¬ s ≤ 8191 := by omega
    clear h
    go_enter Tryd.func32, Tryd.ntmps32
    go_wp2
    go_ret
    exact ⟨rfl, rfl⟩
end Go.Proofs.YtpmppgmnnnlonaaDoor
