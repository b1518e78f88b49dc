/- The laws DaysEasters and DaysEaster. -/
import Derived.Test.YtbgcccfgcdkmdaaGreatDoorDaysX
namespace Go.Proofs.YtbgcccfgcdkmdaaGreatDoor
open Go.RowKit
theorem refEaster_all (y : Int) (east : Bool) (w : World) : Calls Tryz.prog 66 #[.int .i64 y, .bool east] w (EasPost east y w (.int .i64)) := by
  rcases (show (y < 1 ∨ 20000 < y) ∨ (1 ≤ y ∧ y ≤ 20000) by omega) with h | ⟨h1, h2⟩
  · exact refEaster_bad y east w h
  · cases east
    · exact refEaster_west y w h1 h2
    · exact refEaster_east y w h1 h2
theorem eas_cases {east : Bool} {y r x : Int} (h : EasR east y r x) : (r = 0 ∧ x = 4 ∧ (y < 1 ∨ 10000 < y)) ∨ (1 ≤ y ∧ y ≤ 20000 ∧ x = 0 ∧ -900000 ≤ r ∧ r ≤ 4000000 ∧ r = Dm.sunday (Dm.full east y)) := by
  rcases h with ⟨a, rfl, rfl⟩ | ⟨a, b, c, rfl, rfl⟩ | ⟨a, b, c, rfl, rfl⟩
  · exact .inl ⟨rfl, rfl, by omega⟩
  · refine .inl ⟨rfl, rfl, ?_⟩
    by_cases hy : y ≤ 10000
    · have := Dm.full_small east y a hy; omega
    · omega
  · have hb := Dm.full_bd east y a b
    have hs := Dm.sunday_bd (Dm.full east y)
    by_cases hS : Dm.sunday (Dm.full east y) ≤ 4000000
    · have := range_in (x := Dm.sunday (Dm.full east y)) (by omega) hS
      exact .inr ⟨a, b, this.2, by omega, by omega, this.1⟩
    · have := range_out (x := Dm.sunday (Dm.full east y)) (.inr (by omega))
      refine .inl ⟨this.1, this.2, ?_⟩
      by_cases hy : y ≤ 10000
      · have h3 := Dm.full_small east y a hy
        have he := Dm.ep_bd east y
        have hf : Dm.full east y = Dm.dayOf (Dm.calE east) y 4 19 - Dm.ep east y := rfl
        omega
      · omega
end Go.Proofs.YtbgcccfgcdkmdaaGreatDoor
