/- The date of a day: the program's. -/
import Derived.Test.YtbgcccfgcdkmdaaGreatDoorDaysM
import Derived.Test.YtbgcccfgcdkmdaaGreatDoorDaysMathC
namespace Go.Proofs.YtbgcccfgcdkmdaaGreatDoor
open Go.RowKit
def dateV (c y m d : Int) : Value := .agg #[.int .i64 c, .int .i64 y, .int .i64 m, .int .i64 d]
/-- What is wrong with a calendar and a day. -/
def ofE (c n : Int) : Int := if c < 1 ∨ 10 < c then 2 else if n < -4000000 ∨ 4000000 < n then 4 else 0
def OfOk (c n : Int) (err : Value) (w : World) (e : Ending) (w' : World) : Prop :=
  ∃ y m d, e = .returned (.tuple #[dateV c y m d, err]) ∧ Dm.Valid c y m d ∧ Dm.dayOf c y m d = n ∧ Below w.heap.size w w'
theorem ends_pos (c N : Int) (c1 : 1 ≤ c) (c2 : c ≤ 10) (h : 0 ≤ N) : Dm.start c (N / 366 - 2) ≤ N ∧ N < Dm.start c (N / 354 + 3 + 1) := by
  have l1 := Dm.lin_start c (N / 366 - 2) c1 c2
  have l2 := Dm.lin_start c (N / 354 + 3 + 1) c1 c2
  unfold Dm.Lin at l1 l2
  omega
theorem ends_neg (c N : Int) (c1 : 1 ≤ c) (c2 : c ≤ 10) (h : N < 0) : Dm.start c (N / 354 - 2) ≤ N ∧ N < Dm.start c (N / 366 + 3 + 1) := by
  have l1 := Dm.lin_start c (N / 354 - 2) c1 c2
  have l2 := Dm.lin_start c (N / 366 + 3 + 1) c1 c2
  unfold Dm.Lin at l1 l2
  omega
set_option maxHeartbeats 4000000 in
theorem dof_ok (c n : Int) (w : World) (hr : RomanT w) (c1 : 1 ≤ c) (c2 : c ≤ 10) (h1 : -4000000 ≤ n) (h2 : n ≤ 4000000) : Calls Tryz.prog 70 #[.int .i64 c, .int .i64 n] w (OfOk c n .nilIface w) := by
  have HR := Lib.hid hr; clear hr
  have b1 := Dm.first_bd c
  go_enter Tryz.func70, Tryz.ntmps70
  go_wp2_with fail
  refine (find_ok _ _ _ (by repeat (first | exact HR.out | (with_reducible refine RomanT.alloc ?_ _))) c1 c2 (by omega) (by omega)).mono ?_; rintro e w1 ⟨sf, lf, mf, gf, mc, gc, mB, gB, rfl, hS, hmB, hgB, hb1⟩
  unfold schV
  have hz1 := hb1.size
  simp only [World.size_alloc] at hz1
  have hse := hS.se
  have hge := hS.ge
  have hlt2 := hS.glt
  obtain ⟨q1, p1⟩ := carry hb1 w.heap.size (by simp)
  have hs1 : w.heap.size < w1.heap.size := by omega
  have HR1 := Lib.hid (RomanT.call (RomanT.alloc HR.out _) hb1)
  have HB1 := Lib.hid (offA hb1); clear hb1
  have HS := Lib.hid (And.intro hS (And.intro hmB hgB)); clear hS hmB hgB
  obtain ⟨N, hN0⟩ : ∃ N, N = n - Dm.first c := ⟨_, rfl⟩
  have hN1 : -4000000 ≤ N := by omega
  have hN2 : N ≤ 6092590 := by omega
  have HN := Lib.hid hN0.symm
  clear hN0
  go_wp2_with fail
  rw [HN.out]
  obtain ⟨A, hA0⟩ : ∃ A, N / 366 = A := ⟨_, rfl⟩
  obtain ⟨B, hB0⟩ : ∃ B, N / 354 = B := ⟨_, rfl⟩
  have hE : Hid ((A ≤ B → Dm.start c (A - 2) ≤ N ∧ N < Dm.start c (B + 3 + 1)) ∧ (B ≤ A → Dm.start c (B - 2) ≤ N ∧ N < Dm.start c (A + 3 + 1))) := by
    refine Lib.hid ⟨fun h => ?_, fun h => ?_⟩
    · by_cases hn0 : 0 ≤ N
      · rw [← hA0, ← hB0]; exact ends_pos c N c1 c2 hn0
      · have e : A = B := by omega
        rw [e, ← hB0]; have := ends_neg c N c1 c2 (by omega); rw [hA0, e, ← hB0] at this; exact this
    · by_cases hn0 : 0 ≤ N
      · have e : A = B := by omega
        rw [e, ← hB0]; have := ends_pos c N c1 c2 hn0; rw [hA0, e, ← hB0] at this; exact this
      · rw [← hA0, ← hB0]; exact ends_neg c N c1 c2 (by omega)
  have hA1 : -12000 ≤ A ∧ A ≤ 17300 := by omega
  have hB1 : -12000 ≤ B ∧ B ≤ 17300 := by omega
  have HAB := Lib.hid (And.intro hA0 hB0)
  clear hA0 hB0
  refine (floor_any N 366 _ (InI.mk (by omega) (by omega)) (by omega)).mono ?_; rintro e w' ⟨rfl, rfl⟩
  rw [HAB.out.1]
  go_wp2_with fail
  refine (floor_any N 354 _ (InI.mk (by omega) (by omega)) (by omega)).mono ?_; rintro e w' ⟨rfl, rfl⟩
  rw [HAB.out.2]
  go_wp2_with fail
  all_goals
    go_loop [11, 12] (fun lo hi => ∃ a b : Int, lo = .int .i64 a ∧ hi = .int .i64 b ∧ a ≤ b ∧ -15000 ≤ a ∧ b ≤ 18000 ∧ Hid (Dm.start c a ≤ N ∧ N < Dm.start c (b + 1))) (fun lo hi => (intOf hi - intOf lo).toNat)
    case atStart => exact ⟨_, _, rfl, rfl, by omega, by omega, by omega, Lib.hid ⟨by have h1 := hE.out.1; have h2 := hE.out.2; first | exact (h1 (by omega)).1 | exact (h2 (by omega)).1, by have h1 := hE.out.1; have h2 := hE.out.2; first | exact (h1 (by omega)).2 | exact (h2 (by omega)).2⟩⟩
    case round =>
      obtain ⟨lo, hi, rfl, rfl, l1, l2, l3, HL⟩ := hrel
      have b3 : ∀ z : Int, lo ≤ z → z ≤ hi → -25000 ≤ z ∧ z ≤ 25000 := fun z _ _ => by omega
      by_cases hlt : lo < hi
      · obtain ⟨mid, hm⟩ : ∃ mid, (lo + hi + 1) / 2 = mid := ⟨_, rfl⟩
        have m1 : lo + 1 ≤ mid := by omega
        have m2 : mid ≤ hi := by omega
        have HM := Lib.hid hm; clear hm b3
        by_cases hs : Dm.start c mid ≤ N
        · go_wp2_with fail
          refine (floor_any _ _ _ (InI.mk (by omega) (by omega)) (by omega)).mono ?_; rintro e w' ⟨rfl, rfl⟩
          rw [HM.out]
          go_wp2_with fail
          refine (HS.out.1.start _ _ (by omega) (by omega)).mono ?_; rintro e w' ⟨rfl, rfl⟩
          go_wp2_with fail
          go_round
          case rel => exact ⟨mid, hi, rfl, rfl, m2, by omega, l3, Lib.hid ⟨hs, HL.out.2⟩⟩
          case measure => simp [intOf]; omega
        · go_wp2_with fail
          refine (floor_any _ _ _ (InI.mk (by omega) (by omega)) (by omega)).mono ?_; rintro e w' ⟨rfl, rfl⟩
          rw [HM.out]
          go_wp2_with fail
          refine (HS.out.1.start _ _ (by omega) (by omega)).mono ?_; rintro e w' ⟨rfl, rfl⟩
          go_wp2_with fail
          go_round
          case rel => exact ⟨lo, mid - 1, rfl, rfl, by omega, l2, by omega, Lib.hid ⟨HL.out.1, by rw [show mid - 1 + 1 = mid by omega]; omega⟩⟩
          case measure => simp [intOf]; omega
      · obtain rfl : lo = hi := by omega
        clear b3
        have b4 := Dm.start_bd c lo c1 c2 (by omega) (by omega)
        go_wp2_with fail
        refine (HS.out.1.start _ _ (by omega) (by omega)).mono ?_; rintro e w' ⟨rfl, rfl⟩
        go_wp2_with fail
        go_loop [8, 14] (fun nn mm => ∃ t : Nat, mm = .int .i64 (t + 1) ∧ nn = .int .i64 (N - Dm.start c lo - Dm.upTo c lo t) ∧ (t : Int) + 1 ≤ Dm.months c lo ∧ 0 ≤ N - Dm.start c lo - Dm.upTo c lo t) (fun _ mm => 14 - (intOf mm).toNat)
        case atStart => exact ⟨0, rfl, by simp [Dm.upTo], by have := Dm.months_lo c lo; omega, by have := HL.out.1; simp [Dm.upTo]; omega⟩
        case round =>
          obtain ⟨t, rfl, rfl, ht, hn0⟩ := hrel
          have b5 := Dm.upTo_bd c lo t
          have b6 := Dm.length_bd c lo (t + 1)
          have b7 := Dm.months_lo c lo
          by_cases hgt : Dm.length c lo (t + 1) ≤ N - Dm.start c lo - Dm.upTo c lo t
          · have hU : Dm.upTo c lo (t + 1) = Dm.upTo c lo t + Dm.length c lo (t + 1) := rfl
            have hnx : (t : Int) + 1 + 1 ≤ Dm.months c lo := by
              have hs := Dm.sum_all c lo c1 c2 (by omega) (by omega)
              unfold Dm.yearDays at hs
              have h2 := HL.out.2
              by_cases hm : (t : Int) + 1 = Dm.months c lo
              · have e : (Dm.months c lo).toNat = t + 1 := by omega
                rw [e, hU] at hs
                omega
              · omega
            have HU := Lib.hid hU; clear hU
            go_wp2_with fail
            refine (HS.out.1.length _ _ _ (by omega) (by omega) (by omega) ht (cell_alloc hlt2) (RomanT.alloc HR1.out _)).mono ?_; rintro e w' ⟨rfl, rfl⟩
            go_wp2_with fail
            refine (HS.out.1.length _ _ _ (by omega) (by omega) (by omega) ht (cell_alloc hlt2) (RomanT.alloc HR1.out _)).mono ?_; rintro e w' ⟨rfl, rfl⟩
            go_wp2_with fail
            go_round
            case rel => exact ⟨t + 1, by go_num, by rw [HU.out]; congr 1; omega, by omega, by rw [HU.out]; omega⟩
            case measure => simp [intOf]; omega
          · go_wp2_with fail
            refine (HS.out.1.length _ _ _ (by omega) (by omega) (by omega) ht (cell_alloc hlt2) (RomanT.alloc HR1.out _)).mono ?_; rintro e w' ⟨rfl, rfl⟩
            go_wp2_with fail
            refine bodyPost_ret (v := .tuple #[dateV c lo (t + 1) (N - Dm.start c lo - Dm.upTo c lo t + 1), .nilIface]) (by simp [results, Tryz.results70, go_sem, q1, hs1, dateV]) rfl ⟨_, _, _, rfl, ⟨by omega, by omega, by omega, ht, by omega, by omega⟩, ?_, ?_⟩
            · have hN := HN.out
              unfold Dm.dayOf
              rw [show ((t : Int) + 1 - 1).toNat = t by omega]
              omega
            · repeat (first | with_reducible exact HB1.out | (with_reducible refine Below.alloc ?_ (by first | omega | (simp <;> omega)) _) | (with_reducible refine Below.setCell ?_ (by first | omega | (simp <;> omega)) _))
end Go.Proofs.YtbgcccfgcdkmdaaGreatDoor
