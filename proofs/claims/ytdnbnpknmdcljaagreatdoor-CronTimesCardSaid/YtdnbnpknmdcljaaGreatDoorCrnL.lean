/- Plain: what a Cron that may be gives: its numbers are small, its lists are short. -/
import Derived.Test.YtdnbnpknmdcljaaGreatDoorCrnF
namespace Go.Proofs.YtdnbnpknmdcljaaGreatDoor
open Go.RowKit
structure CronG (c : Cron) : Prop where
  mi : risB c.mi 0 59 = true
  ho : risB c.ho 0 23 = true
  mo : risB c.mo 1 12 = true
  da : risB c.da 1 31 = true
  ne : risB c.ne 1 31 = true
  wd : risB c.wd 1 7 = true
  lo : risB c.lo 1 7 = true
  nt : nthB c.nt = true
  month : c.any = !c.month
  week : c.aw = !c.week
theorem ok_good {c : Cron} (h : c.ok = true) : CronG c := by
  simp only [Cron.ok, Cron.head, Bool.and_eq_true] at h
  obtain ⟨⟨⟨⟨⟨⟨⟨⟨⟨⟨⟨⟨h1, h2⟩, h3⟩, h4⟩, h5⟩, h6⟩, h7⟩, h8⟩, h9⟩, _⟩, _⟩, _⟩, h10⟩ := h
  refine ⟨h1, h2, h3, h4, h5, h6, h7, h10, ?_, ?_⟩
  · revert h8; cases c.any <;> cases c.month <;> simp
  · revert h9; cases c.aw <;> cases c.week <;> simp
theorem small_of {l : List Int} {a b : Int} (h : risB l a b = true) (ha : 0 ≤ a) (hb : b < 100) (k : Nat) (hk : k < l.length) : 0 ≤ l.getD k 0 ∧ l.getD k 0 < 100 := by
  have h1 := ris_at h k hk
  exact ⟨by have := h1.1; omega, by have := h1.2.1; omega⟩
theorem short_of {l : List Int} {a b : Int} (h : risB l a b = true) (hab : b - a < 99) : l.length ≤ 100 := by
  rcases Nat.eq_zero_or_pos l.length with h0 | h0
  · omega
  · have := ris_len h h0
    omega
theorem nth_len {l : List (Int × Int)} (h : nthB l = true) : l.length ≤ 100 := by
  rcases Nat.eq_zero_or_pos l.length with h0 | h0
  · omega
  · have key : ∀ k, k < l.length → (k : Int) + 11 ≤ 10 * (l.getD k (0, 0)).2 + (l.getD k (0, 0)).1 := by
      intro k
      induction k with
      | zero => intro hk; have h1 := nth_at h 0 hk; have h2 := h1.1; have h3 := h1.2.2.1; omega
      | succ k ih =>
        intro hk
        have h1 := ih (by omega)
        have h2 := (nth_at h (k + 1) hk).2.2.2.2 (by omega)
        rw [Nat.add_sub_cancel] at h2
        omega
    have h1 := key (l.length - 1) (by omega)
    have h2 := nth_at h (l.length - 1) (by omega)
    have h3 := h2.2.1
    have h4 := h2.2.2.2.1
    omega
end Go.Proofs.YtdnbnpknmdcljaaGreatDoor
