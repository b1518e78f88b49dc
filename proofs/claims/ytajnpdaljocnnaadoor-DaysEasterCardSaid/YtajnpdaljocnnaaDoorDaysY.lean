/- The laws DaysEasters and DaysEaster. -/
import Derived.Test.YtajnpdaljocnnaaDoorDaysX
namespace Go.Proofs.YtajnpdaljocnnaaDoor
open Go.RowKit
theorem refEaster_all (y : Int) (east : Bool) (w : World) : Calls Tryd.prog 29 #[.int .i64 y, .bool east] w (EasPost east y w (.int .i64)) := by
  rcases (show (y < 1 ∨ 20000 < y) ∨ (1 ≤ y ∧ y ≤ 20000) by omega) with h | ⟨h1, h2⟩
  · exact refEaster_bad y east w h
  · cases east
    · exact refEaster_west y w h1 h2
    · exact refEaster_east y w h1 h2
set_option maxHeartbeats 1000000 in
theorem daysEasters_walk (y : Int) (east : Bool) (w : World) (hT : ErrT w) (hr : RomanT w) : Calls Tryd.prog 8 #[.int .i64 y, .bool east] w fun e w' => e = .returned (.bool true) ∧ Below w.heap.size w w' := by
  have HT : Hid (ErrT w ∧ RomanT w) := Lib.hid ⟨hT, hr⟩; clear hT hr
  go_enter Tryd.func8, Tryd.ntmps8
  go_wp2_with fail
  refine (plainEaster _ _ _ HT.out.1 HT.out.2).mono ?_; rintro en w1 ⟨r, x, rfl, hR, hb1⟩
  have HB := Lib.hid (And.intro hR hb1); clear hb1 hR
  go_wp2_with fail
  refine (refEaster_all _ _ _).mono ?_; rintro en w2 ⟨r', x', rfl, hR', hb2⟩
  obtain ⟨rfl, rfl⟩ := HB.out.1.one hR'
  clear hR'
  have HB2 := Lib.hid (thenB HB.out.2 hb2); clear hb2
  go_wp2_with fail
  all_goals go_ret
  all_goals exact ⟨retB (by simp), HB2.out⟩
theorem eas_cases {east : Bool} {y r x : Int} (h : EasR east y r x) : (r = 0 ∧ x = 4 ∧ (y < 1 ∨ 10000 < y)) ∨ (1 ≤ y ∧ y ≤ 20000 ∧ x = 0 ∧ -900000 ≤ r ∧ r ≤ 4000000 ∧ r = Dm.sunday (Dm.full east y)) := by
  rcases h with ⟨a, rfl, rfl⟩ | ⟨a, b, c, rfl, rfl⟩ | ⟨a, b, c, rfl, rfl⟩
  · exact .inl ⟨rfl, rfl, by omega⟩
  · refine .inl ⟨rfl, rfl, ?_⟩
    by_cases hy : y ≤ 10000
    · have := Dm.full_small east y a hy; omega
    · omega
  · have hb := Dm.full_bd east y a b
    have hs := Dm.sunday_bd (Dm.full east y)
    by_cases hS : Dm.sunday (Dm.full east y) ≤ 4000000
    · have := range_in (x := Dm.sunday (Dm.full east y)) (by omega) hS
      exact .inr ⟨a, b, this.2, by omega, by omega, this.1⟩
    · have := range_out (x := Dm.sunday (Dm.full east y)) (.inr (by omega))
      refine .inl ⟨this.1, this.2, ?_⟩
      by_cases hy : y ≤ 10000
      · have h3 := Dm.full_small east y a hy
        have he := Dm.ep_bd east y
        have hf : Dm.full east y = Dm.dayOf (Dm.calE east) y 4 19 - Dm.ep east y := rfl
        omega
      · omega
set_option maxRecDepth 100000 in
set_option maxHeartbeats 2000000 in
theorem daysEaster_false (y : Int) (w : World) (hT : ErrT w) (hr : RomanT w) : Calls Tryd.prog 13 #[.int .i64 y, .bool false] w fun e w' => e = .returned (.bool true) ∧ Below w.heap.size w w' := by
  have HT : Hid (ErrT w ∧ RomanT w) := Lib.hid ⟨hT, hr⟩; clear hT hr
  go_enter Tryd.func13, Tryd.ntmps13
  go_wp2_with fail
  refine (plainEaster _ _ _ HT.out.1 HT.out.2).mono ?_; rintro en w1 ⟨r, x, rfl, hR, hb1⟩
  have HT1 : Hid (ErrT w1 ∧ RomanT w1) := Lib.hid ⟨HT.out.1.call hb1, HT.out.2.call hb1⟩
  have hz1 := hb1.size
  have HB1 := Lib.hid hb1; clear hb1
  rcases eas_cases hR with ⟨rfl, rfl, hy⟩ | ⟨hy1, hy2, rfl, r1, r2, hS⟩
  · clear hR
    rcases hy with hy | hy
    · go_wp2_with fail
      all_goals go_ret
      all_goals exact ⟨retB (by simp), HB1.out⟩
    · have hy' : ¬ y < 1 := by omega
      go_wp2_with fail
      all_goals go_ret
      all_goals exact ⟨retB (by simp), HB1.out⟩
  · clear hR
    have hdt := Dm.easter_date false y hy1 hy2
    have hwd := Dm.sunday_wd (Dm.full false y)
    rw [← hS] at hwd hdt
    rw [show Dm.calE false = 1 from rfl] at hdt
    have HS := Lib.hid hwd; clear hS hwd
    obtain ⟨m, d, hv, hd, hmd⟩ := hdt
    have HV := Lib.hid (And.intro hv hd); clear hv hd
    have HO := Lib.hid (ofE_ok (c := 1) (n := r) (by omega) (by omega) (by omega) r2)
    go_wp2_with fail
    refine (plainOf _ _ _ HT1.out.1 HT1.out.2).mono ?_; rintro en w2 ⟨a', y', m', d', rfl, hR2, hb2⟩
    rw [HO.out]
    obtain ⟨rfl, rfl, rfl, rfl⟩ := hR2.one (.inr ⟨HO.out, rfl, by omega, by omega, HV.out.1, HV.out.2⟩)
    unfold dateV
    clear hR2
    have hz2 := hb2.size
    have HB2 := Lib.hid (thenB HB1.out hb2); clear hb2
    rcases hmd with ⟨rfl, hmd⟩ | ⟨rfl, hmd⟩
    all_goals
      go_wp2_with (go_at_call 36; refine (plainWeekday _ _ (InI.mk (by omega) (by omega))).mono ?_; rintro e w' ⟨rfl, rfl⟩; rw [HS.out])
      all_goals go_ret
      all_goals
        refine ⟨retB (by simp <;> omega), ?_⟩
        repeat (first | with_reducible exact HB2.out | (with_reducible refine Below.alloc ?_ (by first | omega | (simp <;> omega)) _) | (with_reducible refine Below.setCell ?_ (by first | omega | (simp <;> omega)) _))
set_option maxRecDepth 100000 in
set_option maxHeartbeats 2000000 in
theorem daysEaster_true (y : Int) (w : World) (hT : ErrT w) (hr : RomanT w) : Calls Tryd.prog 13 #[.int .i64 y, .bool true] w fun e w' => e = .returned (.bool true) ∧ Below w.heap.size w w' := by
  have HT : Hid (ErrT w ∧ RomanT w) := Lib.hid ⟨hT, hr⟩; clear hT hr
  go_enter Tryd.func13, Tryd.ntmps13
  go_wp2_with fail
  refine (plainEaster _ _ _ HT.out.1 HT.out.2).mono ?_; rintro en w1 ⟨r, x, rfl, hR, hb1⟩
  have HT1 : Hid (ErrT w1 ∧ RomanT w1) := Lib.hid ⟨HT.out.1.call hb1, HT.out.2.call hb1⟩
  have hz1 := hb1.size
  have HB1 := Lib.hid hb1; clear hb1
  rcases eas_cases hR with ⟨rfl, rfl, hy⟩ | ⟨hy1, hy2, rfl, r1, r2, hS⟩
  · clear hR
    rcases hy with hy | hy
    · go_wp2_with fail
      all_goals go_ret
      all_goals exact ⟨retB (by simp), HB1.out⟩
    · have hy' : ¬ y < 1 := by omega
      go_wp2_with fail
      all_goals go_ret
      all_goals exact ⟨retB (by simp), HB1.out⟩
  · clear hR
    have hdt := Dm.easter_date true y hy1 hy2
    have hwd := Dm.sunday_wd (Dm.full true y)
    rw [← hS] at hwd hdt
    rw [show Dm.calE true = 2 from rfl] at hdt
    have HS := Lib.hid hwd; clear hS hwd
    obtain ⟨m, d, hv, hd, hmd⟩ := hdt
    have HV := Lib.hid (And.intro hv hd); clear hv hd
    have HO := Lib.hid (ofE_ok (c := 2) (n := r) (by omega) (by omega) (by omega) r2)
    go_wp2_with fail
    refine (plainOf _ _ _ HT1.out.1 HT1.out.2).mono ?_; rintro en w2 ⟨a', y', m', d', rfl, hR2, hb2⟩
    rw [HO.out]
    obtain ⟨rfl, rfl, rfl, rfl⟩ := hR2.one (.inr ⟨HO.out, rfl, by omega, by omega, HV.out.1, HV.out.2⟩)
    unfold dateV
    clear hR2
    have hz2 := hb2.size
    have HB2 := Lib.hid (thenB HB1.out hb2); clear hb2
    rcases hmd with ⟨rfl, hmd⟩ | ⟨rfl, hmd⟩
    all_goals
      go_wp2_with (go_at_call 36; refine (plainWeekday _ _ (InI.mk (by omega) (by omega))).mono ?_; rintro e w' ⟨rfl, rfl⟩; rw [HS.out])
      all_goals go_ret
      all_goals
        refine ⟨retB (by simp <;> omega), ?_⟩
        repeat (first | with_reducible exact HB2.out | (with_reducible refine Below.alloc ?_ (by first | omega | (simp <;> omega)) _) | (with_reducible refine Below.setCell ?_ (by first | omega | (simp <;> omega)) _))
theorem daysEaster_walk (y : Int) (east : Bool) (w : World) (hT : ErrT w) (hr : RomanT w) : Calls Tryd.prog 13 #[.int .i64 y, .bool east] w fun e w' => e = .returned (.bool true) ∧ Below w.heap.size w w' := by
  cases east
  · exact daysEaster_false y w hT hr
  · exact daysEaster_true y w hT hr
end Go.Proofs.YtajnpdaljocnnaaDoor
