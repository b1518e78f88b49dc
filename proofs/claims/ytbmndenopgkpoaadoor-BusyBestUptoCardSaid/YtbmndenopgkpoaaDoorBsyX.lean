/- Plain: the meeting that is found is the first of those at which the fewest are missing. -/
import Derived.Test.YtbmndenopgkpoaaDoorBsyF
namespace Go.Proofs.YtbmndenopgkpoaaDoor
open Go.RowKit Wrk Go.Shelf
structure Res (S : Int → Option (Int × List Int)) (V : Int → Prop) (b FS : Option Sl) : Prop where
  non : FS = none → b = none ∧ ∀ t, V t → S t = none
  som : ∀ c, FS = some c → (b = some c ∧ ∀ t, V t → ∀ r m, S t = some (r, m) → c.2.2.length ≤ m.length) ∨
    (V c.1 ∧ S c.1 = some (c.2.1, c.2.2) ∧ (∀ t, V t → ∀ r m, S t = some (r, m) → c.2.2.length ≤ m.length ∧ (c.2.2.length = m.length → c.1 ≤ t)) ∧ ∀ c0, b = some c0 → c.2.2.length < c0.2.2.length)
theorem Res.nil {S : Int → Option (Int × List Int)} {V : Int → Prop} {b : Option Sl} (h : ∀ t, ¬ V t) : Res S V b b :=
  ⟨fun e => ⟨e, fun t ht => absurd ht (h t)⟩, fun _ e => .inl ⟨e, fun t ht => absurd ht (h t)⟩⟩
theorem Res.cons {S : Int → Option (Int × List Int)} {V V' : Int → Prop} {b FS : Option Sl} {a : Int} (h : Res S V' (better b a (S a)) FS) (hV : ∀ t, V t ↔ t = a ∨ V' t) (hlt : ∀ t, V' t → a < t) : Res S V b FS := by
  cases hS : S a with
  | none =>
    rw [hS] at h
    have hb : better b a none = b := rfl
    rw [hb] at h
    refine ⟨fun e => ⟨(h.non e).1, fun t ht => ?_⟩, fun c e => ?_⟩
    · rcases (hV t).1 ht with rfl | h2
      · exact hS
      · exact (h.non e).2 t h2
    · rcases h.som c e with ⟨h1, h2⟩ | ⟨h1, h2, h3, h4⟩
      · refine .inl ⟨h1, fun t ht r m e2 => ?_⟩
        rcases (hV t).1 ht with rfl | h5
        · rw [hS] at e2; cases e2
        · exact h2 t h5 r m e2
      · refine .inr ⟨(hV _).2 (.inr h1), h2, fun t ht r m e2 => ?_, h4⟩
        rcases (hV t).1 ht with rfl | h5
        · rw [hS] at e2; cases e2
        · exact h3 t h5 r m e2
  | some q =>
    obtain ⟨r0, m0⟩ := q
    rw [hS] at h
    by_cases hk : b = none ∨ ∃ c, b = some c ∧ m0.length < c.2.2.length
    · rw [better_take hk] at h
      refine ⟨fun e => (by have := (h.non e).1; cases this), fun c e => .inr ?_⟩
      rcases h.som c e with ⟨h1, h2⟩ | ⟨h1, h2, h3, h4⟩
      · injection h1 with h1
        subst h1
        refine ⟨(hV _).2 (.inl rfl), hS, fun t ht r m e2 => ?_, fun c0 e3 => ?_⟩
        · rcases (hV t).1 ht with rfl | h5
          · rw [hS] at e2
            injection e2 with e2
            injection e2 with e3 e4
            subst e4
            exact ⟨Nat.le_refl _, fun _ => Int.le_refl _⟩
          · exact ⟨h2 t h5 r m e2, fun _ => Int.le_of_lt (hlt t h5)⟩
        · rcases hk with hk | ⟨c1, e4, h6⟩
          · rw [hk] at e3; cases e3
          · rw [e3] at e4
            injection e4 with e4
            subst e4
            exact h6
      · have h7 : c.2.2.length < m0.length := h4 _ rfl
        refine ⟨(hV _).2 (.inr h1), h2, fun t ht r m e2 => ?_, fun c0 e3 => ?_⟩
        · rcases (hV t).1 ht with rfl | h5
          · rw [hS] at e2
            injection e2 with e2
            injection e2 with e3 e4
            subst e4
            exact ⟨Nat.le_of_lt h7, fun e5 => by omega⟩
          · exact h3 t h5 r m e2
        · rcases hk with hk | ⟨c1, e4, h6⟩
          · rw [hk] at e3; cases e3
          · rw [e3] at e4
            injection e4 with e4
            subst e4
            omega
    · obtain ⟨c0, rfl⟩ : ∃ c0, b = some c0 := by
        cases b with
        | none => exact absurd (.inl rfl) hk
        | some c0 => exact ⟨c0, rfl⟩
      have hnl : ¬ m0.length < c0.2.2.length := fun h => hk (.inr ⟨c0, rfl, h⟩)
      rw [better_keep hnl] at h
      refine ⟨fun e => (by have := (h.non e).1; cases this), fun c e => ?_⟩
      rcases h.som c e with ⟨h1, h2⟩ | ⟨h1, h2, h3, h4⟩
      · refine .inl ⟨h1, fun t ht r m e2 => ?_⟩
        injection h1 with h1
        subst h1
        rcases (hV t).1 ht with rfl | h5
        · rw [hS] at e2
          injection e2 with e2
          injection e2 with e3 e4
          subst e4
          omega
        · exact h2 t h5 r m e2
      · have h7 := h4 c0 rfl
        refine .inr ⟨(hV _).2 (.inr h1), h2, fun t ht r m e2 => ?_, h4⟩
        rcases (hV t).1 ht with rfl | h5
        · rw [hS] at e2
          injection e2 with e2
          injection e2 with e3 e4
          subst e4
          exact ⟨by omega, fun e5 => by omega⟩
        · exact h3 t h5 r m e2
/-- The moments that are looked at from one on. -/
def VisF (W : Wnt) (a t : Int) : Prop := ∃ i : Nat, t = a + i * W.step ∧ t + W.len ≤ W.to
theorem visF_cons {W : Wnt} {a : Int} (h : a + W.len ≤ W.to) (t : Int) : VisF W a t ↔ t = a ∨ VisF W (a + W.step) t := by
  constructor
  · rintro ⟨i, h1, h2⟩
    cases i with
    | zero => left; simpa using h1
    | succ i => exact .inr ⟨i, by rw [h1]; push_cast; rw [Int.add_mul]; omega, h2⟩
  · rintro (rfl | ⟨i, h1, h2⟩)
    · exact ⟨0, by simp, h⟩
    · exact ⟨i + 1, by rw [h1]; push_cast; rw [Int.add_mul]; omega, h2⟩
theorem visF_lt {W : Wnt} {a t : Int} (hs : 1 ≤ W.step) (h : VisF W (a + W.step) t) : a < t := by
  obtain ⟨i, h1, _⟩ := h
  have : 0 ≤ (i : Int) * W.step := Int.mul_nonneg (by omega) (by omega)
  omega
theorem visF_no {W : Wnt} {a t : Int} (hs : 1 ≤ W.step) (h : ¬ a + W.len ≤ W.to) : ¬ VisF W a t := by
  rintro ⟨i, h1, h2⟩
  have : 0 ≤ (i : Int) * W.step := Int.mul_nonneg (by omega) (by omega)
  omega
theorem findS_res {W : Wnt} {P : List (List Iv)} {R : List Rm} (hs : 1 ≤ W.step) (hl : 1 ≤ W.len) : ∀ (f : Nat) (a : Int) (b : Option Sl), (W.to - a).toNat < f → Res (slotR W P R) (VisF W a) b (findS W P R f a b)
  | 0, _, _, h => absurd h (by omega)
  | f + 1, a, b, h => by
    unfold findS
    by_cases h1 : a + W.len ≤ W.to
    · rw [if_pos h1]
      by_cases h2 : W.step ≤ W.to - a
      · rw [if_pos h2]
        exact (findS_res hs hl f (a + W.step) _ (by omega)).cons (visF_cons h1) (fun t ht => visF_lt hs ht)
      · rw [if_neg h2]
        refine Res.cons (V' := VisF W (a + W.step)) (Res.nil fun t => visF_no hs (by omega)) (visF_cons h1) (fun t ht => visF_lt hs ht)
    · rw [if_neg h1]
      exact Res.nil fun t => visF_no hs h1
/-- A moment that was looked at lies ahead of another or is it. -/
theorem visF_next {W : Wnt} {a t : Int} {j : Nat} (hs : 1 ≤ W.step) (h : VisF W a t) (h2 : a + j * W.step < t) : a + j * W.step + W.step ≤ t := by
  obtain ⟨i, h1, _⟩ := h
  subst h1
  have h3 : j < i := by
    rcases Nat.lt_or_ge j i with h | h
    · exact h
    · have := Int.mul_le_mul_of_nonneg_right (show (i : Int) ≤ (j : Int) by omega) (show 0 ≤ W.step by omega)
      omega
  have h4 := Int.mul_le_mul_of_nonneg_right (show (j : Int) + 1 ≤ (i : Int) by omega) (show 0 ≤ W.step by omega)
  rw [Int.add_mul] at h4
  omega
end Go.Proofs.YtbmndenopgkpoaaDoor
