/- slices.Reverse of whole numbers that the call owns. -/
import Derived.Test.YthhaopdimilmcaaDoorPlnG
namespace Go.Proofs.YthhaopdimilmcaaDoor
open Go.RowKit
/-- The first k from both ends turned. -/
def revF (n k : Nat) (f : Nat → Int) (j : Nat) : Int := if j < k ∨ (n - 1 - k < j ∧ j < n) then f (n - 1 - j) else f j
theorem revF_step {n k : Nat} (f : Nat → Int) (h : 2 * k + 1 < n) : ∀ j, j < n → Plan.upd (Plan.upd (revF n k f) k (revF n k f (n - 1 - k))) (n - 1 - k) (revF n k f k) j = revF n (k + 1) f j := by
  intro j hj
  unfold Plan.upd revF
  by_cases e1 : j = n - 1 - k
  · subst e1
    rw [if_pos rfl, if_neg (by omega), if_pos (by omega)]
    congr 1
    omega
  · rw [if_neg e1]
    by_cases e2 : j = k
    · subst e2
      rw [if_pos rfl, if_neg (by omega), if_pos (by omega)]
    · rw [if_neg e2]
      by_cases e3 : j < k ∨ (n - 1 - k < j ∧ j < n)
      · rw [if_pos e3, if_pos (by omega)]
      · rw [if_neg e3, if_neg (by omega)]
theorem OwnI.congr {w : World} {B n : Nat} {f g : Nat → Int} (h : OwnI w B n f) (e : ∀ j, j < n → f j = g j) : OwnI w B n g := ⟨h.1, fun j hj => ⟨by rw [← e j hj]; exact (h.2 j hj).1, (h.2 j hj).2⟩⟩
set_option maxRecDepth 100000 in
set_option maxHeartbeats 4000000 in
theorem reverse_any (g n cap : Nat) (f : Nat → Int) (w : World) (hn : n ≤ 1000000) (hO : OwnI w g n f) :
    Calls Tryd.prog 43 #[.slice (some ⟨g, 0, none⟩) n cap] w fun e w' => (∃ v, e = .returned v) ∧ OwnI w' g n (fun j => f (n - 1 - j)) ∧ Below g w w' := by
  have HO := Lib.hid hO
  clear hO
  go_enter Tryd.func43, Tryd.ntmps43
  go_wp2_with fail
  go_loopw [2, 3] (fun x y wr => ∃ k : Nat, x = .int .i64 (k : Int) ∧ y = .int .i64 ((n : Int) - 1 - k) ∧ 2 * k ≤ n ∧ Hid (OwnI wr g n (revF n k f)) ∧ Hid (Below g w wr)) (fun x _ _ => n - (intOf x).toNat)
  case atStart => exact ⟨0, rfl, by simp, by omega, Lib.hid (HO.out.congr fun j hj => by unfold revF; rw [if_neg (by omega)]), Lib.hid (Below.refl _ _)⟩
  case round =>
    obtain ⟨k, rfl, rfl, hk, HR, HB⟩ := hrel
    obtain ⟨wA, rfl⟩ : ∃ wo : World, wo = wr := ⟨_, rfl⟩
    by_cases hlt : 2 * k + 1 < n
    · obtain ⟨J, hJ⟩ : ∃ J : Nat, (n : Int) - 1 - k = (J : Int) := ⟨n - 1 - k, by omega⟩
      have hJ2 : J = n - 1 - k := by omega
      rw [hJ]
      have k1 : (0 : Int) ≤ (k : Int) := by omega
      have k2 : (k : Int) < (n : Int) := by omega
      have j1 : (0 : Int) ≤ (J : Int) := by omega
      have j2 : (J : Int) < (n : Int) := by omega
      have kj : (k : Int) < (J : Int) := by omega
      obtain ⟨c1, f1⟩ := HR.out.2 k (by omega)
      obtain ⟨c2, f2⟩ := HR.out.2 J (by omega)
      have hst := revF_step f hlt
      rw [← hJ2] at hst
      obtain ⟨X, hX⟩ : ∃ x, revF n k f k = x := ⟨_, rfl⟩
      obtain ⟨Y, hY⟩ : ∃ x, revF n k f J = x := ⟨_, rfl⟩
      rw [hX] at c1 hst
      rw [hY] at c2 hst
      have HST := Lib.hid hst
      have r1 := cell_regrown c1
      have r2 := cell_regrown c2
      have HJ := Lib.hid hJ2
      clear hX hY hst hJ hJ2
      go_wp2_with fail
      go_region
      have HO3 := Lib.hid (show OwnI ((wA.setCell ⟨g, k, none⟩ (.int .i64 Y)).setCell ⟨g, J, none⟩ (.int .i64 X)).drew g n (revF n (k + 1) f) from ((HR.out.set (show k < n by omega) Y).set (show J < n by omega) X).congr HST.out)
      have HB3 := Lib.hid (below_drew ((HB.out.setCell (p := ⟨g, k, none⟩) (Nat.le_refl _) (.int .i64 Y)).setCell (p := ⟨g, J, none⟩) (Nat.le_refl _) (.int .i64 X)))
      clear r1 r2
      go_wp2_with fail
      go_roundw
      case rel =>
        have e : (J : Int) - 1 = (n : Int) - 1 - ((k + 1 : Nat) : Int) := by have := HJ.out; omega
        exact ⟨k + 1, by go_num, by rw [e], by omega, HO3, HB3⟩
      case measure => simp [intOf]; omega
    · have kj : ¬ (k : Int) < (n : Int) - 1 - k := by omega
      go_wp2_with fail
      go_end0
      refine ⟨⟨_, rfl⟩, HR.out.congr fun j hj => ?_, HB.out⟩
      unfold revF
      by_cases e : j < k ∨ (n - 1 - k < j ∧ j < n)
      · rw [if_pos e]
      · rw [if_neg e]
        congr 1
        omega
set_option maxHeartbeats 1000000 in
theorem reverse_none (oa : Option Addr) (cap : Nat) (w : World) :
    Calls Tryd.prog 43 #[.slice oa 0 cap] w fun e w' => (∃ v, e = .returned v) ∧ w' = w := by
  go_enter Tryd.func43, Tryd.ntmps43
  go_wp2_with fail
  refine wp_loop_rounds 1 ?_
  rw [rounds_succ]
  go_wp2_with fail
  go_end0
  exact ⟨⟨_, rfl⟩, rfl⟩
theorem reverse_ints {w : World} {b n cap : Nat} {ob : Option Addr} {l : List Nat} (hn : n ≤ 1000000) (hl : l.length = n) (h : IntsL w b (.slice ob n cap) l) :
    Calls Tryd.prog 43 #[.slice ob n cap] w fun e w' => (∃ v, e = .returned v) ∧ IntsL w' b (.slice ob n cap) l.reverse ∧ Below b w w' := by
  obtain ⟨oa, c, h1, h2, h3, h4⟩ := h
  simp only [Value.slice.injEq] at h1
  obtain ⟨rfl, h1b, rfl⟩ := h1
  by_cases h0 : 0 < n
  · obtain ⟨g, rfl, h5, h6⟩ := h4 (by omega)
    rw [hl] at h6
    refine (reverse_any g n cap _ w hn h6).mono ?_
    rintro e w' ⟨hv, hO, hb⟩
    refine ⟨hv, ⟨some ⟨g, 0, none⟩, cap, by simp [hl], by simpa using h2, h3, fun _ => ⟨g, rfl, h5, ?_⟩⟩, hb.mono h5⟩
    rw [List.length_reverse, hl]
    refine hO.congr fun j hj => ?_
    have e1 : l.reverse.getD j 0 = l.getD (n - 1 - j) 0 := by
      have h7 : j < l.length := by omega
      simp [List.getD, List.getElem?_reverse h7, hl]
    rw [e1]
  · obtain rfl : n = 0 := by omega
    refine (reverse_none ob cap w).mono ?_
    rintro e w' ⟨hv, rfl⟩
    exact ⟨hv, ⟨ob, cap, by simp [hl], by simpa using h2, h3, fun h7 => by simp at h7; omega⟩, Below.refl _ _⟩
end Go.Proofs.YthhaopdimilmcaaDoor
