/- The number of a date: the program's. -/
import Derived.Test.YtbgcccfgcdkmdaaGreatDoorDaysL
import Derived.Deep.QuietTactic
import Derived.BigQuiet
namespace Go.Proofs.YtbgcccfgcdkmdaaGreatDoor
open Go.RowKit
def rangeR (x : Int) : Int := if -4000000 ≤ x ∧ x ≤ 4000000 then x else 0
def rangeE (x : Int) : Int := if -4000000 ≤ x ∧ x ≤ 4000000 then 0 else 4
theorem range_in {x : Int} (h1 : -4000000 ≤ x) (h2 : x ≤ 4000000) : rangeR x = x ∧ rangeE x = 0 := ⟨if_pos ⟨h1, h2⟩, if_pos ⟨h1, h2⟩⟩
theorem range_out {x : Int} (h : x < -4000000 ∨ 4000000 < x) : rangeR x = 0 ∧ rangeE x = 4 := ⟨if_neg (by omega), if_neg (by omega)⟩
theorem belowN {B : Nat} {a w : World} (h : Below B a w) (n : Nat) : Below B a (w.drewN n) := ⟨h.os, h.tape, h.output, h.size, h.block⟩
theorem quiet_left {P : Program} {f : FuncId} {args : Array Value} {w : World} {n : Nat} {v : Value}
    (h : Calls P f args (w.drewN n) fun e w' => e = .returned v ∧ w.drewN n = w') : Calls P f args (w.drewN n) fun e w'' => e = .returned v ∧ ∃ m, w'' = w.drewN m :=
  h.mono fun _ _ ⟨he, hm⟩ => ⟨he, n, hm.symm⟩
set_option maxHeartbeats 2000000 in
theorem day_len (c y m d : Int) (w : World) (hr : RomanT w) (h : lenE c y m ≠ 0) : Calls Tryz.prog 93 #[.agg #[.int .i64 c, .int .i64 y, .int .i64 m, .int .i64 d]] w fun e w' => e = .returned (.tuple #[.int .i64 0, errV (lenE c y m)]) ∧ Below w.heap.size w w' := by
  have hv := errV_hit h
  have HV := Lib.hid (And.intro hv hr); clear hv hr h
  go_enter Tryz.func93, Tryz.ntmps93
  go_wp2_with fail
  refine (length_all _ _ _ _ (RomanT.alloc HV.out.2 _)).mono ?_; rintro e w1 ⟨rfl, hb1⟩
  rw [HV.out.1]
  have HB1 := Lib.hid (offA hb1); clear hb1
  go_wp2_with fail
  go_ret2
  exact ⟨by rw [HV.out.1]; rfl, HB1.out⟩
set_option maxHeartbeats 2000000 in
theorem day_date (c y m d : Int) (w : World) (hr : RomanT w) (h : lenE c y m = 0) (hd : d < 1 ∨ Dm.length c y m < d) : Calls Tryz.prog 93 #[.agg #[.int .i64 c, .int .i64 y, .int .i64 m, .int .i64 d]] w fun e w' => e = .returned (.tuple #[.int .i64 0, errV 3]) ∧ Below w.heap.size w w' := by
  have hL : lenR c y m = Dm.length c y m := by unfold lenR; rw [h, if_pos rfl]
  have HL := Lib.hid (And.intro h (And.intro hL hr)); clear h hL hr
  rcases hd with hd | hd
  all_goals
    try have hd' : ¬ d < 1 := by have := Dm.length_bd c y m; omega
    go_enter Tryz.func93, Tryz.ntmps93
    go_wp2_with fail
    refine (length_all _ _ _ _ (RomanT.alloc HL.out.2.2 _)).mono ?_; rintro e w1 ⟨rfl, hb1⟩
    rw [HL.out.1, HL.out.2.1, errV_nil]
    have hz1 := hb1.size
    simp only [World.size_alloc] at hz1
    obtain ⟨q1, p1⟩ := carry hb1 w.heap.size (by simp)
    have HB1 := Lib.hid (offA hb1); clear hb1
    go_wp2_with fail
    go_ret2
    exact ⟨rfl, HB1.out⟩
set_option maxHeartbeats 4000000 in
theorem day_ok (c y m d : Int) (w : World) (hr : RomanT w) (h : lenE c y m = 0) (hd1 : 1 ≤ d) (hd2 : d ≤ Dm.length c y m) : Calls Tryz.prog 93 #[.agg #[.int .i64 c, .int .i64 y, .int .i64 m, .int .i64 d]] w fun e w' => e = .returned (.tuple #[.int .i64 (rangeR (Dm.dayOf c y m d)), errV (rangeE (Dm.dayOf c y m d))]) ∧ Below w.heap.size w w' := by
  obtain ⟨c1, c2, y1, y2, m1, m2⟩ := lenE_parts h
  have hL : lenR c y m = Dm.length c y m := by unfold lenR; rw [h, if_pos rfl]
  have HL := Lib.hid (And.intro h (And.intro hL hr)); clear h hL hr
  have b1 := Dm.first_bd c
  have b2 := Dm.start_bd c y c1 c2 (by omega) (by omega)
  have b3 := Dm.length_bd c y m
  have b4 := Dm.months_lo c y
  have hd' : ¬ d < 1 := by omega
  have hm13 : m ≤ 13 := by omega
  go_enter Tryz.func93, Tryz.ntmps93
  go_wp2_with fail
  refine (length_all _ _ _ _ (RomanT.alloc HL.out.2.2 _)).mono ?_; rintro e w1 ⟨rfl, hb1⟩
  rw [HL.out.1, HL.out.2.1, errV_nil]
  have hz1 := hb1.size
  simp only [World.size_alloc] at hz1
  obtain ⟨q1, p1⟩ := carry hb1 w.heap.size (by simp)
  have HR1 := Lib.hid ((RomanT.alloc HL.out.2.2 _).call hb1)
  have HB1 := Lib.hid (offA hb1); clear hb1
  go_wp2_with fail
  refine (of_any _ _ HR1.out c1 c2).mono ?_; rintro e w2 ⟨sf, lf, mf, gf, mc, gc, mB, gB, rfl, hS, hmB, hgB, hb2⟩
  unfold schV
  have hz2 := hb2.size
  obtain ⟨q2, p2⟩ := carry hb2 w.heap.size (by omega)
  have hs2 : w.heap.size < w2.heap.size := by omega
  have hse := hS.se
  have hge := hS.ge
  have hlt2 := hS.glt
  have HR2 := Lib.hid (RomanT.call HR1.out hb2)
  have HB2 := Lib.hid (thenB HB1.out hb2); clear hb2
  have HS := Lib.hid (And.intro hS m2); clear hS hmB hgB m2
  go_wp2_with fail
  go_quiet ((exact quiet_left (HS.out.1.start _ _ (by omega) (by omega))))
  go_wp2_with fail
  go_loopw [8, 9] (fun day i wr => ∃ t : Nat, (t : Int) + 1 ≤ m ∧ i = .int .i64 (t + 1) ∧ day = .int .i64 (Dm.first c + Dm.start c y + d - 1 + Dm.upTo c y t) ∧
      (∀ o, wr.cell? ⟨w.heap.size, o, none⟩ = w2.cell? ⟨w.heap.size, o, none⟩) ∧
      (∀ o, wr.cell? ⟨w2.heap.size, o, none⟩ = (w2.alloc (.cells #[.int .i64 (Dm.first c), .func (Fn.func sf) #[] #[], .func (Fn.func lf) #[] #[], .func (Fn.func mf) #[] mc, .func (Fn.func gf) #[] gc] 151)).cell? ⟨w2.heap.size, o, none⟩) ∧
      wr.cell? ⟨gB, 0, none⟩ = w2.cell? ⟨gB, 0, none⟩ ∧ Hid (RomanT wr) ∧ Hid (Below w.heap.size w wr)) (fun _ i _ => 14 - (intOf i).toNat)
  case atStart =>
    exact ⟨0, by omega, rfl, by simp [Dm.upTo], fun o => (cell_alloc (by omega) : (w2.alloc _).cell? _ = _), fun o => rfl, (cell_alloc hlt2 : (w2.alloc _).cell? _ = _), Lib.hid (fun i hi => (RomanT.alloc HR2.out _) i hi), Lib.hid (belowN (HB2.out.trans ((offA (Below.refl _ _)).mono (by have := HB2.out.size; omega))) _)⟩
  case round =>
    obtain ⟨t, ht, rfl, rfl, r1, r2, r3, HRr, HBr⟩ := hrel
    have b5 := Dm.upTo_bd c y t
    have b6 := Dm.length_bd c y (t + 1)
    by_cases hlt : (t : Int) + 1 < m
    · have HU : Hid (Dm.upTo c y (t + 1) = Dm.upTo c y t + Dm.length c y (t + 1)) := Lib.hid rfl
      have hmm : (t : Int) + 1 ≤ Dm.months c y := by have := HS.out.2; omega
      go_wp2_with fail
      refine (HS.out.1.length _ _ _ (by omega) (by omega) (by omega) hmm r3 HRr.out).mono ?_; rintro e w3 ⟨rfl, rfl⟩
      go_wp2_with fail
      go_roundw
      case rel => exact ⟨t + 1, by omega, by go_num, by rw [HU.out]; congr 1; omega, r1, r2, r3, HRr, HBr⟩
      case measure => simp [intOf]; omega
    · have ht' : t = (m - 1).toNat := by omega
      have HT := Lib.hid ht'; clear ht'
      have hD : Dm.first c + Dm.start c y + d - 1 + Dm.upTo c y t = Dm.dayOf c y m d := by rw [HT.out]; rfl
      have HD := Lib.hid hD; clear hD
      rcases (show Dm.first c + Dm.start c y + d - 1 + Dm.upTo c y t < -4000000 ∨ 4000000 < Dm.first c + Dm.start c y + d - 1 + Dm.upTo c y t ∨ (-4000000 ≤ Dm.first c + Dm.start c y + d - 1 + Dm.upTo c y t ∧ Dm.first c + Dm.start c y + d - 1 + Dm.upTo c y t ≤ 4000000) by omega) with hg | hg | ⟨hg1, hg2⟩
      · go_wp2_with fail
        go_ret2
        exact ⟨by rw [← HD.out, (range_out (by omega)).1, (range_out (by omega)).2]; rfl, HBr.out⟩
      · have hg0 : ¬ Dm.first c + Dm.start c y + d - 1 + Dm.upTo c y t < -4000000 := by omega
        go_wp2_with fail
        go_ret2
        exact ⟨by rw [← HD.out, (range_out (by omega)).1, (range_out (by omega)).2]; rfl, HBr.out⟩
      · go_wp2_with fail
        go_ret2
        exact ⟨by rw [← HD.out, (range_in hg1 hg2).1, (range_in hg1 hg2).2]; rfl, HBr.out⟩
theorem day_all (c y m d : Int) (w : World) (hr : RomanT w) : Calls Tryz.prog 93 #[.agg #[.int .i64 c, .int .i64 y, .int .i64 m, .int .i64 d]] w fun e w' => e = .returned (.tuple #[.int .i64 (dayR c y m d), errV (dayE c y m d)]) ∧ Below w.heap.size w w' := by
  rcases date_ways c y m d with h | ⟨h, hd⟩ | ⟨h, hd1, hd2⟩
  · rw [(dayE_len h).1, (dayE_len h).2]; exact day_len c y m d w hr h
  · rw [(dayE_date h hd).1, (dayE_date h hd).2]; exact day_date c y m d w hr h hd
  · rw [(dayE_ok h hd1 hd2).1, (dayE_ok h hd1 hd2).2]; exact day_ok c y m d w hr h hd1 hd2
end Go.Proofs.YtbgcccfgcdkmdaaGreatDoor
