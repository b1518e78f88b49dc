/- The law DaysKeep: no two dates are one day. -/
import Derived.Test.YtbgcccfgcdkmdaaGreatDoorDaysO
namespace Go.Proofs.YtbgcccfgcdkmdaaGreatDoor
open Go.RowKit
theorem dayE_valid {c y m d : Int} (h : dayE c y m d = 0) : 1 ≤ c ∧ c ≤ 10 ∧ Dm.Valid c y m d ∧ -4000000 ≤ Dm.dayOf c y m d ∧ Dm.dayOf c y m d ≤ 4000000 ∧ dayR c y m d = Dm.dayOf c y m d := by
  have hR : dayR c y m d = Dm.dayOf c y m d := if_pos h
  rcases date_ways c y m d with g | ⟨g, hd⟩ | ⟨g, hd1, hd2⟩
  · rw [(dayE_len g).1] at h; exact absurd h g
  · rw [(dayE_date g hd).1] at h; exact absurd h (by decide)
  · obtain ⟨c1, c2, y1, y2, m1, m2⟩ := lenE_parts g
    rw [(dayE_ok g hd1 hd2).1] at h
    split at h
    · rename_i hr; exact ⟨c1, c2, ⟨y1, y2, m1, m2, hd1, hd2⟩, hr.1, hr.2, hR⟩
    · exact absurd h (by decide)
theorem lenE_valid {c y m d : Int} (c1 : 1 ≤ c) (c2 : c ≤ 10) (h : Dm.Valid c y m d) : lenE c y m = 0 := by
  obtain ⟨y1, y2, m1, m2, _⟩ := h
  unfold lenE; rw [yearE_ok c1 c2 y1 y2]; simp; omega
theorem dayE_back {c y m d n : Int} (c1 : 1 ≤ c) (c2 : c ≤ 10) (h : Dm.Valid c y m d) (hd : Dm.dayOf c y m d = n) (n1 : -4000000 ≤ n) (n2 : n ≤ 4000000) : dayE c y m d = 0 ∧ dayR c y m d = n := by
  have hl := lenE_valid c1 c2 h
  have := dayE_ok hl h.2.2.2.2.1 h.2.2.2.2.2
  rw [hd, if_pos ⟨n1, n2⟩, if_pos ⟨n1, n2⟩] at this
  exact this
theorem OfR.back {c y m d a y' m' d' : Int} (c1 : 1 ≤ c) (c2 : c ≤ 10) (h : Dm.Valid c y m d) (n1 : -4000000 ≤ Dm.dayOf c y m d) (n2 : Dm.dayOf c y m d ≤ 4000000) (h' : OfR c (Dm.dayOf c y m d) a y' m' d') : a = c ∧ y' = y ∧ m' = m ∧ d' = d := by
  have := h'.one (.inr ⟨ofE_ok c1 c2 n1 n2, rfl, c1, c2, h, rfl⟩)
  exact this
end Go.Proofs.YtbgcccfgcdkmdaaGreatDoor
