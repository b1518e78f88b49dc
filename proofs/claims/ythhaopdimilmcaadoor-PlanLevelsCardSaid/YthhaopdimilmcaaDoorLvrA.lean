/- The document's levelling: plain. -/
import Derived.Test.YthhaopdimilmcaaDoorLevJ
namespace Go.Proofs.YthhaopdimilmcaaDoor
open Go.RowKit
/-- The list of the tasks that have their places. -/
inductive DoneL (T : Plan) : List Nat → (Nat → Bool) → Prop
  | nil : DoneL T [] (fun _ => false)
  | snoc {l : List Nat} {z : Nat → Bool} {i : Nat} (h : DoneL T l z) (hi : i < T.n) (hz : z i = false) : DoneL T (l ++ [i]) (updZ z i)
theorem DoneL.mem {T : Plan} {l : List Nat} {z : Nat → Bool} (h : DoneL T l z) : ∀ i, i ∈ l ↔ z i = true := by
  induction h with
  | nil => intro i; simp
  | @snoc l z i h hi hz ih =>
    intro j
    rw [List.mem_append, ih, List.mem_singleton]
    unfold updZ
    by_cases e : j = i
    · rw [if_pos e]; simp [e]
    · rw [if_neg e]; simp [e]
theorem DoneL.lt {T : Plan} {l : List Nat} {z : Nat → Bool} (h : DoneL T l z) : ∀ i, i ∈ l → i < T.n := by
  induction h with
  | nil => intro i hi; cases hi
  | snoc h hi hz ih =>
    intro j hj
    rcases List.mem_append.1 hj with h1 | h1
    · exact ih j h1
    · rw [List.mem_singleton.1 h1]; exact hi
theorem DoneL.len {T : Plan} {l : List Nat} {z : Nat → Bool} (h : DoneL T l z) : l.length = cntB z T.n := by
  induction h with
  | nil =>
    have : ∀ k, cntB (fun _ => false) k = 0 := by
      intro k
      induction k with
      | zero => rfl
      | succ k ih => unfold cntB; rw [if_neg (by simp), ih]
    rw [this]; rfl
  | snoc h hi hz ih => rw [List.length_append, ih, cntB_upd _ _ hz, if_pos hi]; rfl
/-- The sum over the first of a list. -/
def sumT (g : Nat → Int) (l : List Nat) : Nat → Int
  | 0 => 0
  | k + 1 => sumT g l k + g (l.getD k 0)
theorem sumT_append (g : Nat → Int) (l m : List Nat) : ∀ k, k ≤ l.length → sumT g (l ++ m) k = sumT g l k := by
  intro k
  induction k with
  | zero => intro _; rfl
  | succ k ih =>
    intro hk
    unfold sumT
    rw [ih (by omega)]
    have : (l ++ m).getD k 0 = l.getD k 0 := by
      unfold List.getD
      rw [List.getElem?_append_left (by omega)]
    rw [this]
theorem sumT_bd {g : Nat → Int} (hg : ∀ j, 0 ≤ g j ∧ g j ≤ 1000000) (l : List Nat) : ∀ k, 0 ≤ sumT g l k ∧ sumT g l k ≤ 1000000 * (k : Int) := by
  intro k
  induction k with
  | zero => exact ⟨Int.le_refl _, Int.le_refl _⟩
  | succ k ih => have := hg (l.getD k 0); unfold sumT; omega
/-- What a task uses at a time. -/
def useAt (T : Plan) (f t : Nat → Int) (r : Nat) (x : Int) (j : Nat) : Int := if f j ≤ x ∧ x < t j then T.use j r else 0
theorem useAt_bd {T : Plan} (hT : T.Ok) (f t : Nat → Int) (r : Nat) (x : Int) (j : Nat) : 0 ≤ useAt T f t r x j ∧ useAt T f t r x j ≤ 1000000 := by
  have := use_bd hT j r
  unfold useAt
  split <;> omega
theorem lay_updz (T : Plan) (f t : Nat → Int) (z : Nat → Bool) (r : Nat) (x : Int) (i : Nat) (hz : z i = false) (k : Nat) : lay T f t (updZ z i) r x 0 k = lay T f t z r x 0 k + if i < k then useAt T f t r x i else 0 := by
  have hf : Plan.upd f i (f i) = f := by funext j; by_cases e : j = i <;> simp [Plan.upd, e]
  have ht : Plan.upd t i (t i) = t := by funext j; by_cases e : j = i <;> simp [Plan.upd, e]
  have h := lay_upd T f t z r x i (f i) (t i) hz k
  rw [hf, ht] at h
  rw [h]
  unfold useAt
  by_cases h1 : i < k
  · rw [if_pos h1]
    by_cases h2 : f i ≤ x ∧ x < t i
    · rw [if_pos h2, if_pos ⟨h1, h2⟩]
    · rw [if_neg h2, if_neg (fun h => h2 h.2)]
  · rw [if_neg h1, if_neg (fun h => h1 h.1)]
theorem DoneL.sum {T : Plan} {l : List Nat} {z : Nat → Bool} (h : DoneL T l z) (f t : Nat → Int) (r : Nat) (x : Int) : sumT (useAt T f t r x) l l.length = lay T f t z r x 0 T.n := by
  induction h with
  | nil => rw [lay_none T.n fun j _ ha => Bool.noConfusion ha.1]; rfl
  | @snoc l z i h hi hz ih =>
    rw [lay_updz _ _ _ _ _ _ _ hz, if_pos hi, ← ih, List.length_append]
    show sumT _ (l ++ [i]) l.length + useAt T f t r x ((l ++ [i]).getD l.length 0) = _
    rw [sumT_append _ _ _ _ (Nat.le_refl _)]
    have : (l ++ [i]).getD l.length 0 = i := by simp [List.getD]
    rw [this]
/-- Whether there is enough: as the document asks it. -/
def EnoR (T : Plan) (f t : Nat → Int) (z : Nat → Bool) (hv : Nat → Int) (i : Nat) (x : Int) (l : List Nat) (r : Nat) : Prop :=
  T.use i r ≠ 0 → T.len i ≠ 0 → ∀ u, (u = x ∨ ∃ j, j ∈ l ∧ u = f j) → x ≤ u → u < x + T.len i → lay T f t z r u 0 T.n + T.use i r ≤ hv r
theorem enoR_iff {T : Plan} (hT : T.Ok) {f t : Nat → Int} {z : Nat → Bool} {hv : Nat → Int} {i : Nat} {x : Int} {l : List Nat} {r : Nat} (hi : i < T.n) (hd : DoneL T l z) : EnoR T f t z hv i x l r ↔ FitR T f t z T.n hv i x r := by
  have hL := (hT.task i hi).head.1
  constructor
  · intro h h1 h2 u hu
    rw [lay_base]
    rcases (mem_atL T.n).1 hu with rfl | ⟨j, h3, h4, h5, h6, rfl⟩
    · exact h h1 h2 u (.inl rfl) (Int.le_refl _) (by omega)
    · exact h h1 h2 _ (.inr ⟨j, (hd.mem j).2 h4, rfl⟩) (by omega) h6
  · intro h h1 h2 u hu h3 h4
    have h5 := h h1 h2 u ((mem_atL T.n).2 (by
      rcases hu with rfl | ⟨j, h6, rfl⟩
      · exact .inl rfl
      · by_cases e : f j = x
        · exact .inl e
        · exact .inr ⟨j, hd.lt j h6, (hd.mem j).1 h6, by omega, h4, rfl⟩))
    rw [lay_base] at h5
    exact h5
/-- What the search finds: the least of the candidates that fits. -/
def LeastC (P : Int → Prop) (t : Nat → Int) (z : Nat → Bool) (n : Nat) (x s : Int) : Prop := P s ∧ x ≤ s ∧ (s = x ∨ ∃ j, j < n ∧ z j = true ∧ s = t j) ∧ ∀ y, (y = x ∨ ∃ j, j < n ∧ z j = true ∧ y = t j) → x ≤ y → P y → s ≤ y
theorem LeastC.one {P : Int → Prop} {t : Nat → Int} {z : Nat → Bool} {n : Nat} {x s s' : Int} (h : LeastC P t z n x s) (h' : LeastC P t z n x s') : s = s' :=
  Int.le_antisymm (h.2.2.2 s' h'.2.2.1 h'.2.1 h'.1) (h'.2.2.2 s h.2.2.1 h.2.1 h.1)
theorem srch_least {T : Plan} {f t : Nat → Int} {z : Nat → Bool} {n hn : Nat} {hv : Nat → Int} {i : Nat} (h0 : ∀ r, r < hn → T.use i r ≤ hv r) : ∀ (m : Nat) (x : Int), cntT t z x n = m → ∃ s, Srch (FitP T f t z n hn hv i) (fun x => laterF f t z x n) x s ∧ LeastC (FitP T f t z n hn hv i) t z n x s := by
  intro m
  induction m using Nat.strongRecOn with
  | _ m ih =>
    intro x hm
    by_cases h : FitP T f t z n hn hv i x
    · exact ⟨x, .stop h, h, Int.le_refl _, .inl rfl, fun y _ hy _ => hy⟩
    · obtain ⟨g1, ⟨j, g2, g3, g4⟩, g5⟩ := nofit_later h0 h
      obtain ⟨s, s1, s2, s3, s4, s5⟩ := ih _ (by rw [← hm]; exact g5) (laterF f t z x n) rfl
      refine ⟨s, .step h s1, s2, by omega, ?_, fun y hy h1 h2 => ?_⟩
      · rcases s4 with rfl | h4
        · exact .inr ⟨j, g2, g3, g4⟩
        · exact .inr h4
      · rcases hy with rfl | ⟨k, k1, k2, rfl⟩
        · exact absurd h2 h
        · by_cases e : t k = x
          · rw [e] at h2; exact absurd h2 h
          · refine s5 _ (.inr ⟨k, k1, k2, rfl⟩) ?_ h2
            rcases laterF_ways f t z x n with ⟨w1, _⟩ | ⟨_, _, w3⟩
            · omega
            · exact w3 k k1 k2 (by omega)
theorem least_srch {T : Plan} {f t : Nat → Int} {z : Nat → Bool} {n hn : Nat} {hv : Nat → Int} {i : Nat} (h0 : ∀ r, r < hn → T.use i r ≤ hv r) {x s : Int} (h : LeastC (FitP T f t z n hn hv i) t z n x s) : Srch (FitP T f t z n hn hv i) (fun x => laterF f t z x n) x s := by
  obtain ⟨s', h1, h2⟩ := srch_least h0 _ x rfl
  rw [h.one h2]; exact h1
/-- Tasks without a place lie at 0. -/
theorem Lev.zero {T : Plan} {hn : Nat} {hv q : Nat → Int} {p : Nat} {f t : Nat → Int} {z : Nat → Bool} (h : Lev T hn hv q p f t z) : ∀ j, z j = false → f j = 0 ∧ t j = 0 := by
  induction h with
  | start => intro j _; exact ⟨rfl, rfl⟩
  | @step p f t z i s h hi hs ih =>
    intro j hj
    unfold updZ at hj
    by_cases e : j = i
    · rw [if_pos e] at hj; cases hj
    · rw [if_neg e] at hj
      rw [Plan.upd_ne _ _ e, Plan.upd_ne _ _ e]
      exact ih j hj
/-- The best so far. -/
def BestC (P : Int → Prop) (t : Nat → Int) (l : List Nat) (x : Int) (k : Nat) (N : Int) : Prop :=
  (N = -1 ∧ (∀ y, (0 < k ∧ y = x) ∨ (∃ j, j + 1 < k ∧ y = t (l.getD j 0)) → x ≤ y → ¬ P y)) ∨
  (P N ∧ x ≤ N ∧ ((0 < k ∧ N = x) ∨ ∃ j, j + 1 < k ∧ N = t (l.getD j 0)) ∧ ∀ y, (0 < k ∧ y = x) ∨ (∃ j, j + 1 < k ∧ y = t (l.getD j 0)) → x ≤ y → P y → N ≤ y)
theorem BestC.done {P : Int → Prop} {T : Plan} {t : Nat → Int} {z : Nat → Bool} {l : List Nat} (hd : DoneL T l z) {x N s : Int} (h : BestC P t l x (l.length + 1) N) (hs : LeastC P t z T.n x s) : N = s := by
  have hto : ∀ y, ((0 < l.length + 1 ∧ y = x) ∨ ∃ j, j + 1 < l.length + 1 ∧ y = t (l.getD j 0)) ↔ (y = x ∨ ∃ j, j < T.n ∧ z j = true ∧ y = t j) := by
    intro y
    constructor
    · rintro (⟨_, h1⟩ | ⟨j, h1, h2⟩)
      · exact .inl h1
      · have hm : l.getD j 0 ∈ l := by
          have hj : j < l.length := by omega
          have : l.getD j 0 = l[j] := by simp [List.getD, hj]
          rw [this]; exact List.getElem_mem hj
        exact .inr ⟨_, hd.lt _ hm, (hd.mem _).1 hm, h2⟩
    · rintro (h1 | ⟨j, _, h2, h3⟩)
      · exact .inl ⟨by omega, h1⟩
      · obtain ⟨k, hk, e⟩ := List.getElem_of_mem ((hd.mem j).2 h2)
        exact .inr ⟨k, by omega, by rw [h3]; simp [List.getD, hk, e]⟩
  rcases h with ⟨_, h2⟩ | ⟨h1, h2, h3, h4⟩
  · exact absurd hs.1 (h2 s ((hto s).2 hs.2.2.1) hs.2.1)
  · exact LeastC.one ⟨h1, h2, (hto N).1 h3, fun y hy => h4 y ((hto y).2 hy)⟩ hs
end Go.Proofs.YthhaopdimilmcaaDoor
