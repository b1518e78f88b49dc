/- Leap, Months, Length of the document; the law DaysLeaps. -/
import Derived.Test.YtbgcccfgcdkmdaaGreatDoorDaysH
namespace Go.Proofs.YtbgcccfgcdkmdaaGreatDoor
open Go.RowKit
set_option maxHeartbeats 1000000 in
theorem refLength_any (c y m : Int) (w : World) : Calls Tryz.prog 109 #[.int .i64 c, .int .i64 y, .int .i64 m] w fun e w' => e = .returned (.tuple #[.int .i64 (lenR c y m), .int .i64 (lenE c y m)]) ∧ Below w.heap.size w w' := by
  rcases year_ways c y with h | ⟨h1, h2, h⟩ | ⟨h1, h2, h3, h4⟩
  · have hE := yearE_cal (y := y) h
    have hF : lenE c y m = 2 := by rw [lenE_bad (by rw [hE]; decide), hE]
    have HE := Lib.hid hE; clear hE
    have HF := Lib.hid hF; clear hF
    go_enter Tryz.func109, Tryz.ntmps109
    go_wp2_with fail
    refine (year_any _ _ _).mono ?_; rintro e w' ⟨rfl, rfl⟩
    rw [HE.out]
    go_wp2_with fail
    go_ret2
    exact ⟨by unfold lenR; rw [HF.out]; rfl, Below.refl _ _⟩
  · have hE := yearE_range h1 h2 h
    have hF : lenE c y m = 4 := by rw [lenE_bad (by rw [hE]; decide), hE]
    have HE := Lib.hid hE; clear hE
    have HF := Lib.hid hF; clear hF
    go_enter Tryz.func109, Tryz.ntmps109
    go_wp2_with fail
    refine (year_any _ _ _).mono ?_; rintro e w' ⟨rfl, rfl⟩
    rw [HE.out]
    go_wp2_with fail
    go_ret2
    exact ⟨by unfold lenR; rw [HF.out]; rfl, Below.refl _ _⟩
  · have hE := yearE_ok h1 h2 h3 h4
    have HE := Lib.hid hE; clear hE
    have hml := Dm.months_lo c y
    by_cases hm : m < 1 ∨ Dm.months c y < m
    · have HF := Lib.hid (lenE_date HE.out hm)
      rcases hm with hm | hm
      · go_enter Tryz.func109, Tryz.ntmps109
        go_wp2_with fail
        refine (year_any _ _ _).mono ?_; rintro e w' ⟨rfl, rfl⟩
        rw [HE.out]
        go_wp2_with fail
        refine (Lengths_any _ _ _ h1 h2 (by omega) (by omega)).mono ?_; rintro e w1 ⟨B, n, cap, rfl, hn, hB1, hB2, hx, hb⟩
        have HX := Lib.hid (And.intro hn (And.intro hx hb)); clear hn hx hb
        go_wp2_with fail
        go_ret2
        exact ⟨by unfold lenR; rw [HF.out]; rfl, HX.out.2.2⟩
      · by_cases hm1 : m < 1
        · exfalso; omega
        · go_enter Tryz.func109, Tryz.ntmps109
          go_wp2_with fail
          refine (year_any _ _ _).mono ?_; rintro e w' ⟨rfl, rfl⟩
          rw [HE.out]
          go_wp2_with fail
          refine (Lengths_any _ _ _ h1 h2 (by omega) (by omega)).mono ?_; rintro e w1 ⟨B, n, cap, rfl, hn, hB1, hB2, hx, hb⟩
          have hm2 : (n : Int) < m := by omega
          have HX := Lib.hid (And.intro hn (And.intro hx hb)); clear hn hx hb hm hml
          go_wp2_with fail
          go_ret2
          exact ⟨by unfold lenR; rw [HF.out]; rfl, HX.out.2.2⟩
    · have HF := Lib.hid (lenE_ok HE.out (show 1 ≤ m by omega) (show m ≤ Dm.months c y by omega))
      have hm1 : 1 ≤ m := by omega
      have hm1' : ¬ m < 1 := by omega
      go_enter Tryz.func109, Tryz.ntmps109
      go_wp2_with fail
      refine (year_any _ _ _).mono ?_; rintro e w' ⟨rfl, rfl⟩
      rw [HE.out]
      go_wp2_with fail
      refine (Lengths_any _ _ _ h1 h2 (by omega) (by omega)).mono ?_; rintro e w1 ⟨B, n, cap, rfl, hn, hB1, hB2, hx, hb⟩
      have hm2 : m ≤ (n : Int) := by omega
      have hm3 : (n : Int) ≤ 13 := by omega
      have hcell : w1.cell? ⟨B, m.toNat - 1, none⟩ = some (.int .i64 (Dm.length c y m)) := by
        have := hx (m.toNat - 1) (by omega)
        rw [this, show ((m.toNat - 1 : Nat) : Int) + 1 = m by omega]
      have HX := Lib.hid (And.intro hn (And.intro hx hb)); clear hn hx hb hm hml
      go_wp2_with fail
      go_ret2
      exact ⟨by unfold lenR; rw [HF.out]; rfl, HX.out.2.2⟩
end Go.Proofs.YtbgcccfgcdkmdaaGreatDoor
