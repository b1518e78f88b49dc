/- The law WorkSums: working time is additive, and After is inverse to Between: plain; the walk; the row and its card. For every input the law returns true, and the input reads as it did. -/
import Derived.Test.YtbgcccfgcdkmdaaGreatDoorFrameR
import Derived.Test.YtbgcccfgcdkmdaaGreatDoorTG1
import Derived.Test.YtbgcccfgcdkmdaaGreatDoorUG1
namespace Go.Proofs.YtbgcccfgcdkmdaaGreatDoor.Wrk
open Go Go.Proofs.YtbgcccfgcdkmdaaGreatDoor
theorem spS_add {a b c d : Int} {p : Int × Int} (h1 : a ≤ b) (h2 : b ≤ c) (h3 : p.1 ≤ p.2) : spS a b d p + spS b c d p = spS a c d p := by
  unfold spS
  omega
theorem daS_add {a b c d : Int} {L : List (Int × Int)} (h : SpOk L) (h1 : a ≤ b) (h2 : b ≤ c) : ∀ k, k ≤ L.length → daS a b d L k + daS b c d L k = daS a c d L k
  | 0, _ => rfl
  | k + 1, hk => by
    have ih := daS_add h (d := d) h1 h2 k (by omega)
    have g := h k (by omega)
    have := spS_add (d := d) h1 h2 (show (L.getD k (0, 0)).1 ≤ (L.getD k (0, 0)).2 by omega)
    rw [daS, daS, daS]
    omega
theorem btS_add {H : Hrs} (h : chk H = 0) {a b c d : Int} (h1 : a ≤ b) (h2 : b ≤ c) : ∀ k, btS H a b d k + btS H b c d k = btS H a c d k
  | 0 => rfl
  | k + 1 => by
    have ih := btS_add h (d := d) h1 h2 k
    have := daS_add (spOk_day h (d + k)) (d := d + k) h1 h2 _ (Nat.le_refl _)
    rw [btS, btS, btS]
    omega
theorem btS_split {H : Hrs} {a b d : Int} (m : Nat) : ∀ k, btS H a b d (m + k) = btS H a b d m + btS H a b (d + m) k
  | 0 => by simp [btS]
  | k + 1 => by
    rw [← Nat.add_assoc, btS, btS, btS_split m k, show d + ((m + k : Nat) : Int) = d + m + k by omega]
    omega
/-- The end of the span ahead. -/
def enD (d : Int) (L : List (Int × Int)) : Nat → Int
  | 0 => d * 86400
  | k + 1 => (d * 1440 + (L.getD k (0, 0)).2) * 60
theorem enD_bd {d : Int} {L : List (Int × Int)} (h : SpOk L) : ∀ k, k ≤ L.length → d * 86400 ≤ enD d L k ∧ enD d L k ≤ (d + 1) * 86400
  | 0, _ => by simp only [enD]; omega
  | k + 1, hk => by
    have g := h k (by omega)
    simp only [enD]
    omega
theorem enD_lo {d : Int} {L : List (Int × Int)} (h : SpOk L) : ∀ k, k < L.length → enD d L k ≤ (d * 1440 + (L.getD k (0, 0)).1) * 60
  | 0, hk => by
    have g := h 0 hk
    simp only [enD]
    omega
  | k + 1, hk => by
    have g := (h (k + 1) hk).2.2.2 (by omega)
    rw [Nat.add_sub_cancel] at g
    simp only [enD]
    omega
theorem daS_ub {a b d : Int} {L : List (Int × Int)} (h : SpOk L) : ∀ k, k ≤ L.length → 0 ≤ daS a b d L k ∧ daS a b d L k ≤ max 0 (min b (enD d L k) - max a (d * 86400))
  | 0, _ => by unfold daS; omega
  | k + 1, hk => by
    have ih := daS_ub h (a := a) (b := b) (d := d) k (by omega)
    have g := h k (by omega)
    have g2 := enD_lo h (d := d) k (by omega)
    have g3 := enD_bd h (d := d) k (by omega)
    rw [daS]
    unfold spS
    rw [show enD d L (k + 1) = (d * 1440 + (L.getD k (0, 0)).2) * 60 from rfl]
    omega
theorem daS_day {a b d : Int} {L : List (Int × Int)} (h : SpOk L) : 0 ≤ daS a b d L L.length ∧ daS a b d L L.length ≤ max 0 (min b ((d + 1) * 86400) - max a (d * 86400)) := by
  have h1 := daS_ub h (a := a) (b := b) (d := d) _ (Nat.le_refl _)
  have h2 := enD_bd h (d := d) _ (Nat.le_refl _)
  omega
theorem btS_ub {H : Hrs} (h : chk H = 0) {a b d : Int} : ∀ k : Nat, 0 ≤ btS H a b d k ∧ btS H a b d k ≤ max 0 (min b ((d + k) * 86400) - max a (d * 86400))
  | 0 => by unfold btS; omega
  | k + 1 => by
    have ih := btS_ub h (a := a) (b := b) (d := d) k
    have g := daS_day (spOk_day h (d + k)) (a := a) (b := b) (d := d + k)
    rw [btS, show ((k + 1 : Nat) : Int) = k + 1 by omega]
    omega
/-- Between's sums: additive, and not more than the time itself. -/
theorem btS_three {H : Hrs} (h : chk H = 0) {a b c A B C : Int} (hA : A = a / 86400) (hB : B = b / 86400) (hC : C = c / 86400) (h1 : a ≤ b) (h2 : b ≤ c) : btS H a b A (B - A + 1).toNat + btS H b c B (C - B + 1).toNat = btS H a c A (C - A + 1).toNat := by
  have hAB : A ≤ B := by omega
  have hBC : B ≤ C := by omega
  obtain ⟨m, hm⟩ : ∃ m : Nat, B = A + m := ⟨(B - A).toNat, by omega⟩
  obtain ⟨k, hk⟩ : ∃ k : Nat, C = B + k := ⟨(C - B).toNat, by omega⟩
  rw [show (B - A + 1).toNat = m + 1 by omega, show (C - B + 1).toNat = k + 1 by omega, show (C - A + 1).toNat = (m + 1) + k by omega, ← btS_add h h1 h2 (m + 1 + k)]
  have s1 := btS_split (H := H) (a := a) (b := b) (d := A) (m + 1) k
  have z1 := btS_ub h (a := a) (b := b) (d := A + ((m + 1 : Nat) : Int)) k
  have s2 := btS_split (H := H) (a := b) (b := c) (d := A) m (k + 1)
  have z2 := btS_ub h (a := b) (b := c) (d := A) m
  rw [show m + (k + 1) = m + 1 + k by omega] at s2
  rw [← hm] at s2
  omega
theorem btS_len {H : Hrs} (h : chk H = 0) {a b d : Int} (k : Nat) (h1 : a ≤ b) : 0 ≤ btS H a b d k ∧ btS H a b d k ≤ b - a := by
  have := btS_ub h (a := a) (b := b) (d := d) k
  omega
/-- The far end does not matter behind the spans. -/
theorem daS_far {a b c d : Int} {L : List (Int × Int)} (h : SpOk L) : ∀ k, k ≤ L.length → enD d L k ≤ b → enD d L k ≤ c → daS a b d L k = daS a c d L k
  | 0, _, _, _ => rfl
  | k + 1, hk, h1, h2 => by
    have g := h k (by omega)
    have g2 := enD_lo h (d := d) k (by omega)
    rw [show enD d L (k + 1) = (d * 1440 + (L.getD k (0, 0)).2) * 60 from rfl] at h1 h2
    have ih := daS_far h (a := a) (b := b) (c := c) (d := d) k (by omega) (by omega) (by omega)
    rw [daS, daS, ih]
    unfold spS
    omega
theorem daS_late {a b d : Int} {L : List (Int × Int)} (h : SpOk L) (k : Nat) : ∀ j, k + j ≤ L.length → b ≤ enD d L k → daS a b d L (k + j) = daS a b d L k
  | 0, _, _ => rfl
  | j + 1, hk, h1 => by
    have ih := daS_late h (a := a) k j (by omega) h1
    have g2 : ∀ i, k + i < L.length → enD d L k ≤ (d * 1440 + (L.getD (k + i) (0, 0)).1) * 60 := by
      intro i
      induction i with
      | zero => intro hi; exact enD_lo h k hi
      | succ i ih =>
        intro hi
        have e1 := ih (by omega)
        have e2 := h (k + i) (by omega)
        have e3 := enD_lo h (d := d) (k + i + 1) (by omega)
        rw [show enD d L (k + i + 1) = (d * 1440 + (L.getD (k + i) (0, 0)).2) * 60 from rfl] at e3
        rw [show k + (i + 1) = k + i + 1 by omega]
        omega
    have g3 := g2 j (by omega)
    have g4 := h (k + j) (by omega)
    rw [← Nat.add_assoc, daS, ih]
    unfold spS
    omega
theorem aftD_ways {a d : Int} {L : List (Int × Int)} (h : SpOk L) : ∀ (m k : Nat) (n : Int), k + m = L.length → 1 ≤ n →
    (∃ j, k ≤ j ∧ j < L.length ∧ ∃ n', n' = n - (daS a ((d + 1) * 86400) d L j - daS a ((d + 1) * 86400) d L k) ∧ 1 ≤ n' ∧ n' ≤ (d * 1440 + (L.getD j (0, 0)).2) * 60 - max a ((d * 1440 + (L.getD j (0, 0)).1) * 60) ∧ aftD a d (L.drop k) n = (some (max a ((d * 1440 + (L.getD j (0, 0)).1) * 60) + n'), 0)) ∨
    (∃ n', n' = n - (daS a ((d + 1) * 86400) d L L.length - daS a ((d + 1) * 86400) d L k) ∧ 1 ≤ n' ∧ aftD a d (L.drop k) n = (none, n'))
  | 0, k, n, hk, hn => by
    refine .inr ⟨n, ?_, hn, ?_⟩
    · rw [← hk, Nat.add_zero]; omega
    · rw [List.drop_of_length_le (by omega)]; rfl
  | m + 1, k, n, hk, hn => by
    have hkl : k < L.length := by omega
    have g := h k hkl
    by_cases hit : n ≤ (d * 1440 + (L.getD k (0, 0)).2) * 60 - max a ((d * 1440 + (L.getD k (0, 0)).1) * 60)
    · refine .inl ⟨k, Nat.le_refl _, hkl, n, by omega, hn, hit, ?_⟩
      rw [aftD_at hkl, if_pos hit]
    · have e : spS a ((d + 1) * 86400) d (L.getD k (0, 0)) = max 0 ((d * 1440 + (L.getD k (0, 0)).2) * 60 - max a ((d * 1440 + (L.getD k (0, 0)).1) * 60)) := by
        unfold spS
        omega
      have e2 : daS a ((d + 1) * 86400) d L (k + 1) = daS a ((d + 1) * 86400) d L k + spS a ((d + 1) * 86400) d (L.getD k (0, 0)) := rfl
      rcases aftD_ways h (a := a) (d := d) m (k + 1) (n - max 0 ((d * 1440 + (L.getD k (0, 0)).2) * 60 - max a ((d * 1440 + (L.getD k (0, 0)).1) * 60))) (by omega) (by omega) with ⟨j, j1, j2, n', j3, j4, j5, j6⟩ | ⟨n', j3, j4, j6⟩
      · exact .inl ⟨j, by omega, j2, n', by omega, j4, j5, by rw [aftD_at hkl, if_neg hit, j6]⟩
      · exact .inr ⟨n', by omega, j4, by rw [aftD_at hkl, if_neg hit, j6]⟩
/-- A hit within a day: the work up to it, and up to a second ahead of it. -/
theorem aftD_hit {a d n t x : Int} {L : List (Int × Int)} (h : SpOk L) (hn : 1 ≤ n) (hh : aftD a d L n = (some t, x)) : a < t ∧ d * 86400 < t ∧ t ≤ (d + 1) * 86400 ∧ daS a t d L L.length = n ∧ daS a (t - 1) d L L.length = n - 1 := by
  rcases aftD_ways h (a := a) (d := d) L.length 0 n (by omega) hn with ⟨j, -, j2, n', j3, j4, j5, j6⟩ | ⟨n', j3, j4, j6⟩
  · rw [List.drop_zero, hh] at j6
    injection j6 with j6 _
    injection j6 with j6
    have g := h j j2
    have g2 := enD_lo h (d := d) j j2
    have g3 := enD_bd h (d := d) j (by omega)
    have e0 : enD d L (j + 1) = (d * 1440 + (L.getD j (0, 0)).2) * 60 := rfl
    obtain ⟨q, hq⟩ : ∃ q, L.length = (j + 1) + q := ⟨L.length - (j + 1), by omega⟩
    have l1 := daS_late h (a := a) (b := t) (d := d) (j + 1) q (by omega) (by omega)
    have l2 := daS_late h (a := a) (b := t - 1) (d := d) (j + 1) q (by omega) (by omega)
    have f1 := daS_far h (a := a) (b := t) (c := (d + 1) * 86400) (d := d) j (by omega) (by omega) (by omega)
    have f2 := daS_far h (a := a) (b := t - 1) (c := (d + 1) * 86400) (d := d) j (by omega) (by omega) (by omega)
    have d0 : daS a ((d + 1) * 86400) d L 0 = 0 := rfl
    have d1 : daS a t d L (j + 1) = daS a t d L j + spS a t d (L.getD j (0, 0)) := rfl
    have d2 : daS a (t - 1) d L (j + 1) = daS a (t - 1) d L j + spS a (t - 1) d (L.getD j (0, 0)) := rfl
    have s1 : spS a t d (L.getD j (0, 0)) = n' := by unfold spS; omega
    have s2 : spS a (t - 1) d (L.getD j (0, 0)) = n' - 1 := by unfold spS; omega
    rw [← hq] at l1 l2
    refine ⟨by omega, by omega, by omega, by omega, by omega⟩
  · rw [List.drop_zero, hh] at j6
    cases j6
theorem aftD_none {a d n n' : Int} {L : List (Int × Int)} (h : SpOk L) (hn : 1 ≤ n) (hh : aftD a d L n = (none, n')) : 1 ≤ n' ∧ n' = n - daS a ((d + 1) * 86400) d L L.length := by
  rcases aftD_ways h (a := a) (d := d) L.length 0 n (by omega) hn with ⟨j, -, j2, m', j3, j4, j5, j6⟩ | ⟨m', j3, j4, j6⟩
  · rw [List.drop_zero, hh] at j6
    cases j6
  · rw [List.drop_zero, hh] at j6
    injection j6 with _ j6
    have d0 : daS a ((d + 1) * 86400) d L 0 = 0 := rfl
    omega
theorem btS_shift {H : Hrs} {a b d : Int} (k : Nat) : btS H a b d (k + 1) = daS a b d (dayL H d) (dayL H d).length + btS H a b (d + 1) k := by
  rw [show k + 1 = 1 + k by omega, btS_split 1 k]
  simp [btS]
theorem aftS_up {H : Hrs} (hc : chk H = 0) {a : Int} : ∀ (f : Nat) (d n t : Int), 1 ≤ n → aftS H a f d n = (t, 0) → ∃ i : Nat, i < f ∧ thereB (d + i) = true ∧ a < t ∧ (d + i) * 86400 < t ∧ t ≤ (d + i + 1) * 86400 ∧ btS H a t d (i + 1) = n ∧ btS H a (t - 1) d (i + 1) = n - 1
  | 0, d, n, t, _, h => by simp [aftS] at h
  | f + 1, d, n, t, hn, h => by
    have ok := spOk_day hc d
    cases ht : thereB d with
    | false => rw [aftS_out ht] at h; simp at h
    | true =>
      rcases hD : aftD a d (dayL H d) n with ⟨_ | t', n'⟩
      · rw [aftS_next ht hD] at h
        obtain ⟨m1, m2⟩ := aftD_none ok hn hD
        obtain ⟨i, i1, i2, i3, i4, i5, i6, i7⟩ := aftS_up hc f (d + 1) n' t m1 h
        have e : d + ((i + 1 : Nat) : Int) = d + 1 + i := by omega
        have g3 := enD_bd ok (d := d) _ (Nat.le_refl _)
        have F1 := daS_far ok (a := a) (b := t) (c := (d + 1) * 86400) (d := d) _ (Nat.le_refl _) (by omega) (by omega)
        have F2 := daS_far ok (a := a) (b := t - 1) (c := (d + 1) * 86400) (d := d) _ (Nat.le_refl _) (by omega) (by omega)
        refine ⟨i + 1, by omega, by rw [e]; exact i2, i3, by rw [e]; exact i4, by rw [e]; exact i5, ?_, ?_⟩
        · rw [btS_shift, i6, F1]; omega
        · rw [btS_shift, i7, F2]; omega
      · rw [aftS_hit ht hD] at h
        injection h with h _
        subst h
        obtain ⟨m1, m2, m3, m4, m5⟩ := aftD_hit ok hn hD
        refine ⟨0, by omega, by simpa using ht, m1, by simpa using m2, by simpa using m3, ?_, ?_⟩
        · simp [btS]; exact m4
        · simp [btS]; exact m5
theorem aftS_zero {H : Hrs} {a : Int} : ∀ (f : Nat) (d n : Int), (aftS H a f d n).2 ≠ 0 → (aftS H a f d n).1 = 0
  | 0, _, _, _ => rfl
  | f + 1, d, n, h => by
    cases ht : thereB d with
    | false => rw [aftS_out ht]
    | true =>
      rcases hD : aftD a d (dayL H d) n with ⟨_ | t', n'⟩
      · rw [aftS_next ht hD] at h ⊢; exact aftS_zero f _ _ h
      · rw [aftS_hit ht hD] at h; exact absurd rfl h
theorem aftR_zero {H : Hrs} {a n : Int} (h : (aftR H a n).2 ≠ 0) : (aftR H a n).1 = 0 := by
  unfold aftR at h ⊢
  split
  · rfl
  · rename_i g1
    rw [if_neg g1] at h
    split
    · rfl
    · rename_i g2
      rw [if_neg g2] at h
      split
      · rename_i g3; rw [if_pos g3] at h; exact absurd rfl h
      · rename_i g3; rw [if_neg g3] at h; exact aftS_zero _ _ _ h
theorem btR_ok {H : Hrs} {a b x : Int} (h : btR H a b = (x, 0)) : stE H a = 0 ∧ locE b = 0 ∧ a ≤ b ∧ thereB (locD b) = true ∧ x = btS H a b (locD a) (locD b - locD a + 1).toNat := by
  by_cases h1 : stE H a = 0
  · by_cases h2 : locE b = 0
    · by_cases h3 : b < a
      · unfold btR at h; rw [if_neg (by rw [h1]; decide), if_neg (by rw [h2]; decide), if_pos h3] at h; cases h
      · by_cases h4 : thereB (locD b) = false ∨ 4000 < locD b - locD a
        · rw [btR_out h1 h2 h3 h4] at h; cases h
        · have h5 : thereB (locD b) = true := by
            cases g : thereB (locD b)
            · exact absurd (.inl g) h4
            · rfl
          rw [btR_in h1 h2 h3 h5 (fun g => h4 (.inr g))] at h
          injection h with h _
          exact ⟨h1, h2, by omega, h5, h.symm⟩
    · unfold btR at h; rw [if_neg (by rw [h1]; decide), if_pos h2] at h
      exact absurd (congrArg Prod.snd h) h2
  · unfold btR at h; rw [if_pos h1] at h
    exact absurd (congrArg Prod.snd h) h1
/-- Three Betweens. -/
theorem btR_three {H : Hrs} {a b c x y z : Int} (h1 : btR H a b = (x, 0)) (h2 : btR H b c = (y, 0)) (h3 : btR H a c = (z, 0)) : x + y = z ∧ 0 ≤ x ∧ x ≤ b - a ∧ 0 ≤ b - a ∧ b - a ≤ 900000000000 ∧ 0 ≤ y ∧ y ≤ 900000000000 := by
  obtain ⟨a1, a2, a3, a4, a5⟩ := btR_ok h1
  obtain ⟨b1, b2, b3, b4, b5⟩ := btR_ok h2
  obtain ⟨c1, c2, c3, c4, c5⟩ := btR_ok h3
  obtain ⟨hc, la, -⟩ := stE_zero a1
  obtain ⟨la1, la2, la3⟩ := loc_zero la
  obtain ⟨lb1, lb2, lb3⟩ := loc_zero a2
  obtain ⟨lc1, lc2, lc3⟩ := loc_zero b2
  have t := btS_three hc la3 lb3 lc3 a3 b3
  rw [← a5, ← b5, ← c5] at t
  have u := btS_len hc (d := locD a) (locD b - locD a + 1).toNat a3
  rw [← a5] at u
  have v := btS_len hc (d := locD b) (locD c - locD b + 1).toNat b3
  rw [← b5] at v
  omega
/-- After, then Between. -/
theorem aftR_bt {H : Hrs} {a n t : Int} (hn : 1 ≤ n) (h : aftR H a n = (t, 0)) : -345600000000 < t ∧ t ≤ 345600086399 ∧ (btR H a t = (0, 4) ∨ btR H a t = (n, 0)) ∧ btR H a (t - 1) = (n - 1, 0) := by
  have h0 : stE H a = 0 := by
    by_cases g : stE H a = 0
    · exact g
    · unfold aftR at h; rw [if_pos g] at h; exact absurd (congrArg Prod.snd h) g
  unfold aftR at h
  rw [if_neg (by rw [h0]; decide), if_neg (by omega), if_neg (by omega)] at h
  obtain ⟨hc, la, ta⟩ := stE_zero h0
  obtain ⟨la1, la2, la3⟩ := loc_zero la
  obtain ⟨i, i1, i2, i3, i4, i5, i6, i7⟩ := aftS_up hc 4001 _ _ _ hn h
  have bd := there_bd i2
  obtain ⟨A, hA⟩ : ∃ A, locD a = A := ⟨_, rfl⟩
  rw [hA] at la3 i2 i4 i5 i6 i7 bd
  have et := loc_in (t := t) (by omega) (by omega)
  have et1 := loc_in (t := t - 1) (by omega) (by omega)
  have hd1 : locD (t - 1) = A + i := by rw [et1.2.1]; omega
  refine ⟨by omega, by omega, ?_, ?_⟩
  · by_cases hb : thereB (locD t) = false ∨ 4000 < locD t - locD a
    · exact .inl (btR_out h0 et.1 (by omega) hb)
    · refine .inr ?_
      have h5 : thereB (locD t) = true := by
        cases g : thereB (locD t)
        · exact absurd (.inl g) hb
        · rfl
      rw [btR_in h0 et.1 (by omega) h5 (fun g => hb (.inr g)), hA]
      have hd : locD t = A + i ∨ (locD t = A + i + 1 ∧ t = (A + i + 1) * 86400) := by rw [et.2.1]; omega
      rcases hd with hd | ⟨hd, hte⟩
      · rw [hd, show (A + (i : Int) - A + 1).toNat = i + 1 by omega, i6]
      · rw [hd, show (A + (i : Int) + 1 - A + 1).toNat = (i + 1) + 1 by omega, btS_split (i + 1) 1, i6]
        have z := btS_ub hc (a := a) (b := t) (d := A + ((i + 1 : Nat) : Int)) 1
        have : btS H a t (A + ((i + 1 : Nat) : Int)) 1 = 0 := by omega
        rw [this, Int.add_zero]
  · rw [btR_in h0 et1.1 (by omega) (by rw [hd1]; exact i2) (by rw [hd1, hA]; omega), hA, hd1, show (A + (i : Int) - A + 1).toNat = i + 1 by omega, i7]
theorem aftR_none {H : Hrs} {a t : Int} (h : aftR H a 0 = (t, 0)) : t = a ∧ btR H a a = (0, 0) := by
  have h0 : stE H a = 0 := by
    by_cases g : stE H a = 0
    · exact g
    · unfold aftR at h; rw [if_pos g] at h; exact absurd (congrArg Prod.snd h) g
  unfold aftR at h
  rw [if_neg (by rw [h0]; decide), if_neg (by omega), if_pos rfl] at h
  injection h with h _
  obtain ⟨hc, la, ta⟩ := stE_zero h0
  refine ⟨h.symm, ?_⟩
  rw [btR_in h0 la (by omega) ta (by omega)]
  have u := btS_len hc (d := locD a) (locD a - locD a + 1).toNat (Int.le_refl a)
  rw [show btS H a a (locD a) (locD a - locD a + 1).toNat = 0 by omega]
end Go.Proofs.YtbgcccfgcdkmdaaGreatDoor.Wrk

namespace Go.Proofs.YtbgcccfgcdkmdaaGreatDoor
open Go.RowKit Wrk
theorem tmodM (n : Int) : (n.tmod 2000000 < 0 → n.tmod 2000000 + 2000000 = n % 2000000) ∧ (¬ n.tmod 2000000 < 0 → n.tmod 2000000 = n % 2000000) := by
  have h1 := Int.tmod_def n 2000000
  have h2 : n.tdiv 2000000 = if 0 ≤ n then n / 2000000 else -((-n) / 2000000) := by
    split
    · exact Int.tdiv_eq_ediv_of_nonneg ‹_›
    · rw [show n = -(-n) by omega, Int.neg_tdiv, Int.tdiv_eq_ediv_of_nonneg (by omega)]; simp
  split at h2 <;> omega
theorem ret1m {a b : Int} (h : a = b) : Ending.returned (.int .i64 a) = .returned (.int .i64 b) := by rw [h]
set_option maxRecDepth 100000 in
set_option maxHeartbeats 400000 in
theorem pickM (n : Int) (w : World) : Calls Tryz.prog 17 #[.int .i64 n, .int .i64 2000000] w fun e w' => e = .returned (.int .i64 (n % 2000000)) ∧ w = w' := by
  obtain ⟨g1, g2⟩ := tmodM n
  have g3 : -2000000 < n.tmod 2000000 ∧ n.tmod 2000000 < 2000000 := by
    have h2 := Int.natAbs_tmod n 2000000
    have h3 := Nat.mod_lt n.natAbs (show 0 < (2000000 : Int).natAbs by decide)
    omega
  by_cases h : n.tmod 2000000 < 0
  · have H := Lib.hid (g1 h)
    clear g1 g2
    obtain ⟨g4, g5⟩ := g3
    go_enter Tryz.func17, Tryz.ntmps17
    go_wp2_with fail
    all_goals go_ret
    all_goals exact ⟨ret1m (by have := H.out; first | exact this | simp_all | omega), rfl⟩
  · have H := Lib.hid (g2 h)
    clear g1 g2
    obtain ⟨g4, g5⟩ := g3
    go_enter Tryz.func17, Tryz.ntmps17
    go_wp2_with fail
    all_goals go_ret
    all_goals exact ⟨ret1m (by have := H.out; first | exact this | simp_all | omega), rfl⟩
set_option maxRecDepth 100000 in
set_option maxHeartbeats 16000000 in
theorem workSums_walk (s : Nat → Value) (vh : Value) (H : Hrs) (a b c n : Int) (w : World) (hT : ErrT w) (hr : RomanT w) (hR : HrsR w.heap.size w s vh H) : Calls Tryz.prog 5 #[hoursV s vh, .int .i64 a, .int .i64 b, .int .i64 c, .int .i64 n] w fun e w' => e = .returned (.bool true) ∧ Below w.heap.size w w' := by
  obtain ⟨wB, hwB, ⟨hb0, hlt⟩, f0, f1, f2, f3, f4, f5, f6, f7⟩ := hours_cells s vh w
  have HB0 := Lib.hid hb0
  have HLT := Lib.hid hlt
  have HS : Hid (∀ w', Below wB.heap.size wB w' → (w'.cell? ⟨w.heap.size, 0, none⟩ = some (s 0) ∧ w'.cell? ⟨w.heap.size, 1, none⟩ = some (s 1) ∧ w'.cell? ⟨w.heap.size, 2, none⟩ = some (s 2) ∧ w'.cell? ⟨w.heap.size, 3, none⟩ = some (s 3) ∧ w'.cell? ⟨w.heap.size, 4, none⟩ = some (s 4) ∧ w'.cell? ⟨w.heap.size, 5, none⟩ = some (s 5) ∧ w'.cell? ⟨w.heap.size, 6, none⟩ = some (s 6) ∧ w'.cell? ⟨w.heap.size, 7, none⟩ = some vh)) := Lib.hid fun w' hb => ⟨(hb.cell (p := ⟨w.heap.size, 0, none⟩) HLT.out).trans f0, (hb.cell (p := ⟨w.heap.size, 1, none⟩) HLT.out).trans f1, (hb.cell (p := ⟨w.heap.size, 2, none⟩) HLT.out).trans f2, (hb.cell (p := ⟨w.heap.size, 3, none⟩) HLT.out).trans f3, (hb.cell (p := ⟨w.heap.size, 4, none⟩) HLT.out).trans f4, (hb.cell (p := ⟨w.heap.size, 5, none⟩) HLT.out).trans f5, (hb.cell (p := ⟨w.heap.size, 6, none⟩) HLT.out).trans f6, (hb.cell (p := ⟨w.heap.size, 7, none⟩) HLT.out).trans f7⟩
  have hBB := Nat.le_trans (Nat.le_refl w.heap.size) hb0.size
  have CP := Lib.hid (fun w0 => pickM n w0)
  have hPb : 0 ≤ n % 2000000 ∧ n % 2000000 < 2000000 := by omega
  obtain ⟨P, hP⟩ : ∃ P, n % 2000000 = P := ⟨_, rfl⟩
  rw [hP] at CP hPb
  have C2 := Lib.hid (fun aa bb w0 (hb : Below wB.heap.size wB w0) => plainBetween_any w.heap.size H s vh aa bb w0 ((hT.call hb0).call hb) (RomanT.call (RomanT.call hr hb0) hb) ((hR.call hb0).call (hb.mono hBB)) (Nat.le_trans hBB hb.size))
  have C1 := Lib.hid (fun w0 (hb : Below wB.heap.size wB w0) => plainAfter_any w.heap.size H s vh a P w0 ((hT.call hb0).call hb) (RomanT.call (RomanT.call hr hb0) hb) ((hR.call hb0).call (hb.mono hBB)) (Nat.le_trans hBB hb.size) (InI.mk (by omega) (by omega)))
  unfold AftPost at C1
  unfold BtPost at C2
  obtain ⟨R, hRR⟩ : ∃ R, aftR H a P = R := ⟨_, rfl⟩
  rw [hRR] at C1
  have HZ : Hid (R.2 ≠ 0 → R.1 = 0) := Lib.hid (by rw [← hRR]; exact aftR_zero)
  have HY0 : Hid (P = 0 → ∀ t, R = (t, 0) → t = a ∧ btR H a a = (0, 0)) := Lib.hid fun h t e => aftR_none (by subst h; exact hRR.trans e)
  have HY : Hid (1 ≤ P → ∀ t, R = (t, 0) → -345600000000 < t ∧ t ≤ 345600086399 ∧ (btR H a t = (0, 4) ∨ btR H a t = (P, 0)) ∧ btR H a (t - 1) = (P - 1, 0)) := Lib.hid fun h t e => aftR_bt h (hRR.trans e)
  obtain ⟨X, hX⟩ : ∃ X, btR H a b = X := ⟨_, rfl⟩
  obtain ⟨Y, hY⟩ : ∃ Y, btR H b c = Y := ⟨_, rfl⟩
  obtain ⟨Z, hZ⟩ : ∃ Z, btR H a c = Z := ⟨_, rfl⟩
  have CX := Lib.hid (fun w0 hb => C2.out a b w0 hb)
  have CY := Lib.hid (fun w0 hb => C2.out b c w0 hb)
  have CZ := Lib.hid (fun w0 hb => C2.out a c w0 hb)
  rw [hX] at CX
  rw [hY] at CY
  rw [hZ] at CZ
  obtain ⟨X1, X2⟩ := X
  obtain ⟨Y1, Y2⟩ := Y
  obtain ⟨Z1, Z2⟩ := Z
  obtain ⟨R1, R2⟩ := R
  have H3 : Hid (X2 = 0 → Y2 = 0 → Z2 = 0 → X1 + Y1 = Z1 ∧ 0 ≤ X1 ∧ X1 ≤ b - a ∧ 0 ≤ b - a ∧ b - a ≤ 900000000000 ∧ 0 ≤ Y1 ∧ Y1 ≤ 900000000000) := Lib.hid fun h1 h2 h3 => by subst h1; subst h2; subst h3; exact btR_three hX hY hZ
  simp only at C1 CX CY CZ HZ
  unfold hoursV at C1 C2 CX CY CZ
  unfold hoursV
  have HPP := Lib.hid hP
  clear hb0 hlt hr hR hT hRR hBB hP hX hY hZ
  go_enter Tryz.func5, Tryz.ntmps5
  go_upto_region 2 with (go_at_call 13; (with_reducible refine (CX.out _ (Below.refl _ _)).mono ?_); rintro e w2 ⟨rfl, hb2⟩; have HB2 := Lib.hid hb2; clear hb2)
  clear f0 f1 f2 f3 f4 f5 f6 f7 hwB
  obtain ⟨g0, g1, g2, g3, g4, g5, g6, g7⟩ := HS.out _ HB2.out
  go_upto_region 3 with (go_at_call 13; (with_reducible refine (CY.out _ HB2.out).mono ?_); rintro e w3 ⟨rfl, hb3⟩; have HB3 := Lib.hid (thenB HB2.out hb3); clear hb3)
  clear g0 g1 g2 g3 g4 g5 g6 g7
  obtain ⟨g0, g1, g2, g3, g4, g5, g6, g7⟩ := HS.out _ HB3.out
  go_upto_region 4 with (go_at_call 13; (with_reducible refine (CZ.out _ HB3.out).mono ?_); rintro e w4 ⟨rfl, hb4⟩; have HB4 := Lib.hid (thenB HB3.out hb4); clear hb4)
  clear g0 g1 g2 g3 g4 g5 g6 g7
  go_cut [69] from 42 to 68 (fun q wx => q = .bool false ∧ w4 = wx)
  case first =>
    by_cases hx : X2 = 0
    · by_cases hy : Y2 = 0
      · by_cases hz : Z2 = 0
        · obtain ⟨e1, e2, e3, e4, e5, e6, e7⟩ := H3.out hx hy hz
          subst hx
          subst hy
          subst hz
          subst e1
          have k1 : wrap64 (X1 + Y1) = X1 + Y1 := wrap_in (InI.mk (by omega) (by omega))
          have k2 : (X1 + Y1 != X1 + Y1) = false := by simp
          have k3 : decide (X1 < 0) = false := decide_eq_false (by omega)
          have k4 : wrap64 (b - a) = b - a := wrap_in (InI.mk (by omega) (by omega))
          have k5 : decide (b - a < X1) = false := decide_eq_false (by omega)
          clear e2 e3 e4 e5 e6 e7
          go_wp2_with fail
          go_meet
          exact ⟨rfl, rfl⟩
        · have bz : (Z2 == 0) = false := by simpa using hz
          subst hx
          subst hy
          clear hz
          go_wp2_with fail
          go_meet
          exact ⟨rfl, rfl⟩
      · have by_ : (Y2 == 0) = false := by simpa using hy
        subst hx
        clear hy
        go_wp2_with fail
        go_meet
        exact ⟨rfl, rfl⟩
    · have bx : (X2 == 0) = false := by simpa using hx
      clear hx
      go_wp2_with fail
      go_meet
      exact ⟨rfl, rfl⟩
  case rest =>
    obtain ⟨rfl, rfl⟩ := hcut
    obtain ⟨g0, g1, g2, g3, g4, g5, g6, g7⟩ := HS.out _ HB4.out
    go_upto_region 8 with (first
      | (go_at_call 17; refine (CP.out _).mono ?_; rintro e w5 ⟨rfl, rfl⟩)
      | (go_at_call 15; (with_reducible refine (C1.out _ HB4.out).mono ?_); rintro e w6 ⟨rfl, hb6⟩; have HB6 := Lib.hid (thenB HB4.out hb6); clear hb6))
    clear g0 g1 g2 g3 g4 g5 g6 g7
    by_cases hz : R2 = 0
    · subst hz
      obtain ⟨g0, g1, g2, g3, g4, g5, g6, g7⟩ := HS.out _ HB6.out
      by_cases h0 : P = 0
      · obtain ⟨t1, t2⟩ := HY0.out h0 R1 rfl
        subst h0
        subst t1
        have CA := Lib.hid (fun w0 hb => C2.out R1 R1 w0 hb)
        rw [t2] at CA
        clear t2
        have q1 : (R1 == R1) = true := beq_self_eq_true _
        go_wp2_with (go_at_call 13; (with_reducible refine (CA.out _ HB6.out).mono ?_); rintro e w7 ⟨rfl, hb7⟩; have HB7 := Lib.hid (thenB HB6.out hb7); clear hb7)
        go_ret
        exact ⟨rfl, thenB HB0.out HB7.out⟩
      · have hP1 : 1 ≤ P := by omega
        obtain ⟨t1, t2, t3, t4⟩ := HY.out hP1 R1 rfl
        have CA := Lib.hid (fun w0 hb => C2.out a R1 w0 hb)
        rcases t3 with t3 | t3
        · rw [t3] at CA
          clear t3 t4
          go_wp2_with (go_at_call 13; (with_reducible refine (CA.out _ HB6.out).mono ?_); rintro e w7 ⟨rfl, hb7⟩; have HB7 := Lib.hid (thenB HB6.out hb7); clear hb7)
          go_ret
          exact ⟨rfl, thenB HB0.out HB7.out⟩
        · rw [t3] at CA
          have CB := Lib.hid (fun w0 hb => C2.out a (R1 - 1) w0 hb)
          rw [t4] at CB
          clear t3 t4
          have k1 : wrap64 (R1 - 1) = R1 - 1 := wrap_in (InI.mk (by omega) (by omega))
          have k2 : wrap64 (P - 1) = P - 1 := wrap_in (InI.mk (by omega) (by omega))
          have k3 : (P == P) = true := beq_self_eq_true _
          have k4 : (P - 1 == P - 1) = true := beq_self_eq_true _
          go_upto_region 14 with (go_at_call 13; (with_reducible refine (CA.out _ HB6.out).mono ?_); rintro e w7 ⟨rfl, hb7⟩; have HB7 := Lib.hid (thenB HB6.out hb7); clear hb7)
          clear g0 g1 g2 g3 g4 g5 g6 g7
          obtain ⟨g0, g1, g2, g3, g4, g5, g6, g7⟩ := HS.out _ HB7.out
          go_wp2_with (go_at_call 13; (with_reducible refine (CB.out _ HB7.out).mono ?_); rintro e w8 ⟨rfl, hb8⟩; have HB8 := Lib.hid (thenB HB7.out hb8); clear hb8)
          go_ret
          exact ⟨rfl, thenB HB0.out HB8.out⟩
    · have hz1 := HZ.out hz
      subst hz1
      have bz : (R2 != 0) = true := by simpa using hz
      clear hz
      go_wp2_with fail
      go_ret
      exact ⟨rfl, thenB HB0.out HB6.out⟩
end Go.Proofs.YtbgcccfgcdkmdaaGreatDoor

namespace Go.Proofs.YtbgcccfgcdkmdaaGreatDoor.workSums
open Go.ChangeShapes Go.WideShapes Go.ChangeAt Go.RowKit Go.Joins
open Go.ChangeMaps (open_string shut_string)
/-- WHAT THE ROW's LIST GIVES. -/
theorem errT {W : World} (h : laidMetH Tryz.prog Rows.workSumsRow.laid W) : ErrT W := errT_handles (laidMetH_iff.1 h).2 (List.mem_filter.2 ⟨by simp [Rows.workSumsRow], by kernel_rfl⟩)
theorem romanT {W : World} (h : laidMetH Tryz.prog Rows.workSumsRow.laid W) : RomanT W := romanT_laid (by kernel_rfl) h
set_option maxRecDepth 100000 in
theorem contract (H : Type) (enc : TypeId × Value → H) (W : World) (base : Nat) (args : Array Value) (ds gs : List (DataW H)) (before : List MemPlace)
    (hval : ∀ (j : Nat) t v, Tryz.f5.params[j]? = some t → args[j]? = some v → Value.okWide Tryz.prog W .any base t v)
    (hW : DataW.Whole enc Tryz.prog Tryz.f5.params.toList Rows.workSumsSpec.vars false W args.toList ds gs before) (hL : laidMetH Tryz.prog Rows.workSumsRow.laid W) :
    Calls Tryz.prog 5 args W fun e W' => ∃ v, e = .returned v ∧ Rows.workSumsSpec.post enc Tryz.prog Tryz.f5 false true false false W args v W' := by
  have hW' := hW
  obtain ⟨p, q, hA0, hV, rfl, hfz, hnd⟩ := hW
  have hA : DataW.TrodAll enc Tryz.prog W 0 (fun _ => true) true Tryz.f5.params.toList args.toList ds p := hA0
  rw [Tryz.params5] at hA hval
  obtain ⟨v0, vs0, d0, ds0, p0, q0, hargs, rfl, rfl, h0, r0⟩ := trodAll_cons hA
  obtain ⟨v1, vs1, d1, ds1, p1, q1, rfl, rfl, rfl, h1, r1⟩ := trodAll_cons r0
  obtain ⟨v2, vs2, d2, ds2, p2, q2, rfl, rfl, rfl, h2, r2⟩ := trodAll_cons r1
  obtain ⟨v3, vs3, d3, ds3, p3, q3, rfl, rfl, rfl, h3, r3⟩ := trodAll_cons r2
  obtain ⟨v4, vs4, d4, ds4, p4, q4, rfl, rfl, rfl, h4, r4⟩ := trodAll_cons r3
  obtain ⟨rfl, rfl, rfl⟩ := trodAll_nil r4
  obtain rfl : args = #[v0, v1, v2, v3, v4] := Array.toList_inj.1 hargs
  obtain ⟨rfl, rfl⟩ := trodVars_none hV
  obtain ⟨s0, vh0, H0, rfl, hR0⟩ := open_hours (hval 0 26 v0 rfl rfl) h0
  obtain ⟨x1, rfl, rfl, rfl, k1⟩ := open_int Tryz.underlying34 (hval 1 34 v1 rfl rfl) h1
  obtain ⟨x2, rfl, rfl, rfl, k2⟩ := open_int Tryz.underlying34 (hval 2 34 v2 rfl rfl) h2
  obtain ⟨x3, rfl, rfl, rfl, k3⟩ := open_int Tryz.underlying34 (hval 3 34 v3 rfl rfl) h3
  obtain ⟨x4, rfl, rfl, rfl, k4⟩ := open_int Tryz.underlying3 (hval 4 3 v4 rfl rfl) h4
  exact law_done rfl rfl rfl (by kernel_rfl) hW' (workSums_walk s0 vh0 H0 x1 x2 x3 x4 W (errT hL) (romanT hL) hR0)
theorem laid_met (os : Os) : laidMetH Tryz.prog Rows.workSumsRow.laid ((laidWorld os).forCall (fun _ _ => 0) ⟨#[], #[.agg #[.slice none 0 0, .slice none 0 0, .slice none 0 0, .slice none 0 0, .slice none 0 0, .slice none 0 0, .slice none 0 0, .slice none 0 0], .int .i64 0, .int .i64 0, .int .i64 0, .int .i64 0], []⟩).memory :=
  laidMetH_of_parts (laidMet_of_run' 8 (by kernel_rfl) (by kernel_rfl)) (by kernel_rfl)
theorem reads (os : Os) {H : Type} (enc : TypeId × Value → H) : ∃ places, DataW.whole enc Tryz.prog ((laidWorld os).forCall (fun _ _ => 0) ⟨#[], #[.agg #[.slice none 0 0, .slice none 0 0, .slice none 0 0, .slice none 0 0, .slice none 0 0, .slice none 0 0, .slice none 0 0, .slice none 0 0], .int .i64 0, .int .i64 0, .int .i64 0, .int .i64 0], []⟩).memory Tryz.f5.params.toList Rows.workSumsSpec.vars false (#[.agg #[.slice none 0 0, .slice none 0 0, .slice none 0 0, .slice none 0 0, .slice none 0 0, .slice none 0 0, .slice none 0 0, .slice none 0 0], .int .i64 0, .int .i64 0, .int .i64 0, .int .i64 0] : Array Value).toList 8 = some ([.agg [.agg [.nil, .nil, .nil, .nil, .nil, .nil, .nil], .nil], .lit (.int .i64 0), .lit (.int .i64 0), .lit (.int .i64 0), .lit (.int .i64 0)], [], places) :=
  ⟨[], by kernel_rfl⟩
set_option maxRecDepth 100000 in
theorem lifted (os : Os) (started : os.Started) (H : Type) (enc : TypeId × Value → H) (F : Stop.Interp) :
    ReturnsInHanded {} Tryz.checked os 5 .any ((OpenSpec.ofChange Rows.workSumsSpec).preRow enc Tryz.prog Tryz.f5 Rows.workSumsRow.domain false Rows.workSumsRow.laid) (((OpenSpec.ofChange Rows.workSumsSpec).at F).post enc Tryz.prog Tryz.f5 false true false false) := by
  obtain ⟨places, hx⟩ := reads os enc
  refine returnsInHanded_of_row (C := Tryz.checked) (s := OpenSpec.ofChange Rows.workSumsSpec) Tryz.own started (by kernel_rfl) Tryz.func5
    (witness_row_at (enc := enc) (C := Tryz.checked) false (laidWorld os) #[.agg #[.slice none 0 0, .slice none 0 0, .slice none 0 0, .slice none 0 0, .slice none 0 0, .slice none 0 0, .slice none 0 0, .slice none 0 0], .int .i64 0, .int .i64 0, .int .i64 0, .int .i64 0] rfl (by kernel_rfl) (by kernel_rfl) (by kernel_rfl)
      (OpenSpec.preRow_of_cond 8 hx (by kernel_rfl) (fun k hk => by cases hk) (by kernel_rfl) (laid_met os))) ?_
  intro W base args ds gs before hval hW _ _ _ hL _ _
  exact contract H enc W base args ds gs before hval hW hL
theorem said : Rows.WorkSumsSaid :=
  OpenClaim.holds_of_cond 5 Tryz.f5 rfl rfl rfl rfl rfl rfl rfl ⟨rfl, rfl, rfl, rfl, rfl⟩ rfl rfl rfl rfl rfl (by kernel_rfl) Tryz.func5 (by kernel_rfl)
    (of_decide_eq_true (by kernel_rfl)) (by unfold Func.isWrapper; first | (rw [if_pos (by decide +kernel)]; kernel_rfl) | (rw [if_neg (by decide +kernel)]; exact ⟨rfl, rfl⟩))
    (fun os started H enc _ F => by rw [OpenClaim.pre_eq_preRow]; exact lifted os started H enc F)
theorem plain (f : FuncId) (fn : Func) (hf : Tryz.pinned.checked.prog.funcNamed "almanac/almanackeep.WorkSums" = some f) (hfn : Tryz.pinned.checked.prog.funcs[f]? = some fn) :
    true = Tryz.pinned.checked.prog.looks [] ∧ ∀ (j : Nat) t, fn.params[j]? = some t → Tryz.pinned.checked.prog.wantsStandIn t = false := by
  obtain rfl : f = 5 := Option.some.inj ((show Tryz.prog.funcNamed "almanac/almanackeep.WorkSums" = some 5 by kernel_rfl).symm.trans hf) |>.symm
  obtain rfl : fn = Tryz.f5 := (Option.some.inj (Tryz.func5.symm.trans hfn)).symm
  refine ⟨by kernel_rfl, fun j t ht => ?_⟩
  have h := (show Tryz.f5.params.all (fun t => !Tryz.prog.wantsStandIn t) = true by kernel_rfl)
  have := Array.all_eq_true_iff_forall_mem.1 h t (Array.mem_of_getElem? ht)
  show Tryz.prog.wantsStandIn t = false
  simpa using this
end Go.Proofs.YtbgcccfgcdkmdaaGreatDoor.workSums
namespace Go.Proofs.YtbgcccfgcdkmdaaGreatDoor
open Go.ChangeShapes Go.WideShapes Go.ChangeAt Go.RowKit
/-- THE CARD of WorkSums. -/
theorem workSums_card : Rows.WorkSumsCardSaid :=
  Claim7.holds_tied_plain_at .later [] _ _ _ _ workSums.said (fun _ h => by cases h) (by kernel_rfl) (fun _ h => by cases h) workSums_row_tie rfl ⟨rfl, rfl⟩ (by kernel_rfl) rfl workSums.plain (by kernel_rfl)
end Go.Proofs.YtbgcccfgcdkmdaaGreatDoor

