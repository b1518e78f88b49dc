/- The program's answers on spans and sets of ways. -/
import Derived.Test.YtpmppgmnnnlonaaDoorSpanE
import Derived.Test.YtpmppgmnnnlonaaDoorSpanP
namespace Go.Proofs.YtpmppgmnnnlonaaDoor
open Go.RowKit
/-- What is wrong with two spans; how they lie. -/
def ofE (a b c d : Int) : Int := if b ≤ a ∨ d ≤ c then 13 else 0
def ofV (a b c d : Int) : Int := if b ≤ a ∨ d ≤ c then 0 else (Sp.way a b c d : Int)
theorem of_bad {a b c d : Int} (h : b ≤ a ∨ d ≤ c) : ofE a b c d = 13 ∧ ofV a b c d = 0 := ⟨if_pos h, if_pos h⟩
theorem of_ok {a b c d : Int} (h : a < b) (h' : c < d) : ofE a b c d = 0 ∧ ofV a b c d = (Sp.way a b c d : Int) := ⟨if_neg (by omega), if_neg (by omega)⟩
def OfRet (a b c d : Int) (w : World) (e : Ending) (w' : World) : Prop := e = .returned (.tuple #[.int .i64 (ofV a b c d), errV (ofE a b c d)]) ∧ Below w.heap.size w w'
def OfRetT (a b c d : Int) (w : World) (e : Ending) (w' : World) : Prop := e = .returned (.tuple #[.int .i64 (ofV a b c d), .int .i64 (ofE a b c d)]) ∧ Below w.heap.size w w'
theorem errV13 : errV 13 = .iface 24 (.int .i64 13) := rfl
set_option maxHeartbeats 1000000 in
theorem pof_any (a b c d : Int) (w : World) : Calls Tryd.prog 27 #[.agg #[.int .i64 a, .int .i64 b], .agg #[.int .i64 c, .int .i64 d]] w (OfRet a b c d w) := by
  unfold OfRet
  by_cases h1 : b ≤ a
  · rw [(of_bad (.inl h1)).1, (of_bad (c := c) (d := d) (.inl h1)).2, errV13]
    go_enter Tryd.func27, Tryd.ntmps27
    go_wp2_with fail
    all_goals go_ret2
    all_goals exact ⟨rfl, ((Below.refl _ _).alloc (Nat.le_refl _) _).alloc (by simp) _⟩
  · by_cases h2 : d ≤ c
    · rw [(of_bad (.inr h2)).1, (of_bad (a := a) (b := b) (.inr h2)).2, errV13]
      go_enter Tryd.func27, Tryd.ntmps27
      go_wp2_with fail
      all_goals go_ret2
      all_goals exact ⟨rfl, ((Below.refl _ _).alloc (Nat.le_refl _) _).alloc (by simp) _⟩
    · have h3 : a < b := by omega
      have h4 : c < d := by omega
      rw [(of_ok h3 h4).1, (of_ok h3 h4).2, errV_nil]
      go_enter Tryd.func27, Tryd.ntmps27
      go_wp2_with fail
      refine (way_any _ _ _ _ _ h3 h4).mono ?_; rintro e w1 ⟨rfl, hb1⟩
      have HB := Lib.hid (offA (offA hb1)); clear hb1
      go_wp2_with fail
      go_ret2
      exact ⟨rfl, HB.out⟩
set_option maxHeartbeats 1000000 in
theorem rof_any (a b c d : Int) (w : World) : Calls Tryd.prog 11 #[.agg #[.int .i64 a, .int .i64 b], .agg #[.int .i64 c, .int .i64 d]] w (OfRetT a b c d w) := by
  unfold OfRetT
  by_cases h1 : b ≤ a
  · rw [(of_bad (.inl h1)).1, (of_bad (c := c) (d := d) (.inl h1)).2]
    go_enter Tryd.func11, Tryd.ntmps11
    go_wp2_with fail
    all_goals go_ret2
    all_goals exact ⟨rfl, ((Below.refl _ _).alloc (Nat.le_refl _) _).alloc (by simp) _⟩
  · by_cases h2 : d ≤ c
    · rw [(of_bad (.inr h2)).1, (of_bad (a := a) (b := b) (.inr h2)).2]
      go_enter Tryd.func11, Tryd.ntmps11
      go_wp2_with fail
      all_goals go_ret2
      all_goals exact ⟨rfl, ((Below.refl _ _).alloc (Nat.le_refl _) _).alloc (by simp) _⟩
    · have h3 : a < b := by omega
      have h4 : c < d := by omega
      rw [(of_ok h3 h4).1, (of_ok h3 h4).2]
      go_enter Tryd.func11, Tryd.ntmps11
      go_wp2_with fail
      refine (refWay_any _ _ _ _ _ h3 h4).mono ?_; rintro e w1 ⟨rfl, hb1⟩
      have HB := Lib.hid (offA (offA hb1)); clear hb1
      go_wp2_with fail
      go_ret2
      exact ⟨rfl, HB.out⟩
set_option maxHeartbeats 1000000 in
theorem plainOf_any (a b c d : Int) (w : World) (hT : ErrT w) : Calls Tryd.prog 8 #[.agg #[.int .i64 a, .int .i64 b], .agg #[.int .i64 c, .int .i64 d]] w (OfRetT a b c d w) := by
  have HT := Lib.hid hT; clear hT
  go_enter Tryd.func8, Tryd.ntmps8
  go_wp2_with fail
  refine (pof_any _ _ _ _ _).mono ?_; rintro e w1 ⟨rfl, hb1⟩
  have hz := hb1.size
  simp only [World.size_alloc] at hz
  have HT1 := Lib.hid (((HT.out.alloc _).alloc _).call hb1)
  have HB1 := Lib.hid (offA (offA hb1)); clear hb1
  go_wp2_with fail
  refine (tell_any _ _ HT1.out).mono ?_; rintro e w2 ⟨rfl, hb2⟩
  have HB2 := Lib.hid (thenB HB1.out hb2); clear hb2
  go_wp2_with fail
  go_ret2
  exact ⟨rfl, HB2.out⟩
/-- A set may be. -/
def okS (s : Int) : Prop := 0 ≤ s ∧ s ≤ 8191
set_option maxHeartbeats 1000000 in
theorem may_yes (B o n cap : Nat) (zs : Nat → Int) (w : World) (hn : n ≤ 1000000) (hc : ∀ i, i < n → w.cell? ⟨B, o + i, none⟩ = some (.int .i64 (zs i))) (hz : ∀ i, i < n → okS (zs i)) : Calls Tryd.prog 45 #[.slice (some ⟨B, o, none⟩) n cap] w fun e w' => e = .returned (.bool true) ∧ w' = w := by
  have HC := Lib.hid hc; clear hc
  have HZ := Lib.hid hz; clear hz
  go_enter Tryd.func45, Tryd.ntmps45
  go_wp2_with fail
  go_loop [7] (fun c => ∃ k : Nat, c = .int .i64 (k : Int) ∧ k ≤ n) (fun c => n - (intOf c).toNat)
  case atStart => exact ⟨0, rfl, by omega⟩
  case round =>
    obtain ⟨k, rfl, hk⟩ := hrel
    by_cases hlt : k < n
    · have hc := HC.out k hlt
      obtain ⟨z1, z2⟩ := HZ.out k hlt
      obtain ⟨z, hz⟩ : ∃ z, zs k = z := ⟨_, rfl⟩
      rw [hz] at hc z1 z2
      clear hz
      have z3 : ¬ z < 0 := by omega
      have z4 : ¬ 8191 < z := by omega
      go_wp2_with fail
      go_round
      case rel => exact ⟨k + 1, by go_num, by omega⟩
      case measure => simp [intOf]; omega
    · go_wp2_with fail
      go_ret
      exact ⟨rfl, rfl⟩
set_option maxHeartbeats 1000000 in
theorem may_no (B o n cap j : Nat) (zs : Nat → Int) (w : World) (hn : n ≤ 1000000) (hc : ∀ i, i < n → w.cell? ⟨B, o + i, none⟩ = some (.int .i64 (zs i))) (hj : j < n) (hz : ¬ okS (zs j)) : Calls Tryd.prog 45 #[.slice (some ⟨B, o, none⟩) n cap] w fun e w' => e = .returned (.bool false) ∧ w' = w := by
  have HC := Lib.hid hc; clear hc
  have HZ := Lib.hid hz; clear hz
  go_enter Tryd.func45, Tryd.ntmps45
  go_wp2_with fail
  go_loop [7] (fun c => ∃ k : Nat, c = .int .i64 (k : Int) ∧ k ≤ j) (fun c => n - (intOf c).toNat)
  case atStart => exact ⟨0, rfl, by omega⟩
  case round =>
    obtain ⟨k, rfl, hk⟩ := hrel
    have hlt : k < n := by omega
    have hc := HC.out k hlt
    by_cases hok : okS (zs k)
    · have hkj : k ≠ j := by rintro rfl; exact HZ.out hok
      obtain ⟨z1, z2⟩ := hok
      obtain ⟨z, hz⟩ : ∃ z, zs k = z := ⟨_, rfl⟩
      rw [hz] at hc z1 z2
      clear hz
      have z3 : ¬ z < 0 := by omega
      have z4 : ¬ 8191 < z := by omega
      go_wp2_with fail
      go_round
      case rel => exact ⟨k + 1, by go_num, by omega⟩
      case measure => simp [intOf]; omega
    · obtain ⟨z, hz⟩ : ∃ z, zs k = z := ⟨_, rfl⟩
      unfold okS at hok
      rw [hz] at hc hok
      clear hz
      by_cases z3 : z < 0
      · clear hok
        go_wp2_with fail
        go_ret
        exact ⟨rfl, rfl⟩
      · have z4 : 8191 < z := by omega
        clear hok
        go_wp2_with fail
        go_ret
        exact ⟨rfl, rfl⟩
end Go.Proofs.YtpmppgmnnnlonaaDoor
