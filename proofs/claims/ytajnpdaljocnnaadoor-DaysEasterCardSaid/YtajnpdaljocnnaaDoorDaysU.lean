/- The law DaysKeep: no two dates are one day. -/
import Derived.Test.YtajnpdaljocnnaaDoorDaysO
namespace Go.Proofs.YtajnpdaljocnnaaDoor
open Go.RowKit
theorem dayE_valid {c y m d : Int} (h : dayE c y m d = 0) : 1 ≤ c ∧ c ≤ 10 ∧ Dm.Valid c y m d ∧ -4000000 ≤ Dm.dayOf c y m d ∧ Dm.dayOf c y m d ≤ 4000000 ∧ dayR c y m d = Dm.dayOf c y m d := by
  have hR : dayR c y m d = Dm.dayOf c y m d := if_pos h
  rcases date_ways c y m d with g | ⟨g, hd⟩ | ⟨g, hd1, hd2⟩
  · rw [(dayE_len g).1] at h; exact absurd h g
  · rw [(dayE_date g hd).1] at h; exact absurd h (by decide)
  · obtain ⟨c1, c2, y1, y2, m1, m2⟩ := lenE_parts g
    rw [(dayE_ok g hd1 hd2).1] at h
    split at h
    · rename_i hr; exact ⟨c1, c2, ⟨y1, y2, m1, m2, hd1, hd2⟩, hr.1, hr.2, hR⟩
    · exact absurd h (by decide)
theorem lenE_valid {c y m d : Int} (c1 : 1 ≤ c) (c2 : c ≤ 10) (h : Dm.Valid c y m d) : lenE c y m = 0 := by
  obtain ⟨y1, y2, m1, m2, _⟩ := h
  unfold lenE; rw [yearE_ok c1 c2 y1 y2]; simp; omega
theorem dayE_back {c y m d n : Int} (c1 : 1 ≤ c) (c2 : c ≤ 10) (h : Dm.Valid c y m d) (hd : Dm.dayOf c y m d = n) (n1 : -4000000 ≤ n) (n2 : n ≤ 4000000) : dayE c y m d = 0 ∧ dayR c y m d = n := by
  have hl := lenE_valid c1 c2 h
  have := dayE_ok hl h.2.2.2.2.1 h.2.2.2.2.2
  rw [hd, if_pos ⟨n1, n2⟩, if_pos ⟨n1, n2⟩] at this
  exact this
theorem OfR.back {c y m d a y' m' d' : Int} (c1 : 1 ≤ c) (c2 : c ≤ 10) (h : Dm.Valid c y m d) (n1 : -4000000 ≤ Dm.dayOf c y m d) (n2 : Dm.dayOf c y m d ≤ 4000000) (h' : OfR c (Dm.dayOf c y m d) a y' m' d') : a = c ∧ y' = y ∧ m' = m ∧ d' = d := by
  have := h'.one (.inr ⟨ofE_ok c1 c2 n1 n2, rfl, c1, c2, h, rfl⟩)
  exact this
set_option maxHeartbeats 2000000 in
theorem daysKeep_walk (c y m d : Int) (w : World) (hT : ErrT w) (hr : RomanT w) : Calls Tryd.prog 9 #[.agg #[.int .i64 c, .int .i64 y, .int .i64 m, .int .i64 d]] w fun e w' => e = .returned (.bool true) ∧ Below w.heap.size w w' := by
  have HT : Hid (ErrT w ∧ RomanT w) := Lib.hid ⟨hT, hr⟩; clear hT hr
  by_cases he : dayE c y m d = 0
  · obtain ⟨c1, c2, hv, n1, n2, hR⟩ := dayE_valid he
    have HE := Lib.hid (And.intro he hR)
    have HV := Lib.hid hv
    have HO := Lib.hid (ofE_ok c1 c2 n1 n2)
    clear he hR hv
    go_enter Tryd.func9, Tryd.ntmps9
    go_wp2_with fail
    refine (plainDay _ _ _ _ _ (HT.out.1.alloc _) (HT.out.2.alloc _)).mono ?_; rintro en w1 ⟨rfl, hb1⟩
    rw [HE.out.1, HE.out.2]
    have hz1 := hb1.size
    simp only [World.size_alloc] at hz1
    obtain ⟨q1, p1⟩ := carry hb1 w.heap.size (by simp)
    have hs1 : w.heap.size < w1.heap.size := by omega
    have HT1 : Hid (ErrT w1 ∧ RomanT w1) := Lib.hid ⟨(HT.out.1.alloc _).call hb1, (HT.out.2.alloc _).call hb1⟩
    have HB1 := Lib.hid (offA hb1); clear hb1
    go_wp2_with fail
    refine (plainOf _ _ _ HT1.out.1 HT1.out.2).mono ?_; rintro en w2 ⟨a, y', m', d', rfl, hR2, hb2⟩
    rw [HO.out]
    obtain ⟨rfl, rfl, rfl, rfl⟩ := OfR.back c1 c2 HV.out n1 n2 hR2
    unfold dateV
    clear hR2
    have hz2 := hb2.size
    obtain ⟨q2, p2⟩ := carry hb2 w.heap.size hs1
    have hs2 : w.heap.size < w2.heap.size := by omega
    have HB2 := Lib.hid (thenB HB1.out hb2); clear hb2
    go_wp2_with fail
    all_goals go_ret
    all_goals exact ⟨retB (by simp), (HB2.out.alloc (by omega) _)⟩
  · have hR : dayR c y m d = 0 := if_neg he
    have HE := Lib.hid hR; clear hR
    go_enter Tryd.func9, Tryd.ntmps9
    go_wp2_with fail
    refine (plainDay _ _ _ _ _ (HT.out.1.alloc _) (HT.out.2.alloc _)).mono ?_; rintro en w1 ⟨rfl, hb1⟩
    rw [HE.out]
    have HB1 := Lib.hid (offA hb1); clear hb1
    go_wp2_with fail
    all_goals go_ret
    all_goals exact ⟨retB (by simp), HB1.out⟩
end Go.Proofs.YtajnpdaljocnnaaDoor
