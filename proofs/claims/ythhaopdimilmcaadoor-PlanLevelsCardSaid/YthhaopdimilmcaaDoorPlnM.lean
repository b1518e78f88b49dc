/- Critical tasks and the critical path, in plain Lean. -/
import Derived.Test.YthhaopdimilmcaaDoorPlnA
namespace Go.Proofs.YthhaopdimilmcaaDoor
namespace Plan
/-- Where a task stands in an order. -/
def pos : List Nat → Nat → Nat
  | [], _ => 0
  | x :: l, i => if x = i then 0 else pos l i + 1
theorem pos_lt : ∀ {l : List Nat} {i : Nat}, i ∈ l → pos l i < l.length := by
  intro l
  induction l with
  | nil => intro i h; simp at h
  | cons x l ih =>
    intro i h
    unfold pos
    by_cases e : x = i
    · rw [if_pos e]; simp
    · rw [if_neg e]
      have := ih ((List.mem_cons.1 h).resolve_left fun h2 => e h2.symm)
      simp; exact this
theorem pos_left : ∀ {l m : List Nat} {i : Nat}, i ∈ l → pos (l ++ m) i = pos l i := by
  intro l
  induction l with
  | nil => intro m i h; simp at h
  | cons x l ih =>
    intro m i h
    show (if x = i then 0 else pos (l ++ m) i + 1) = (if x = i then 0 else pos l i + 1)
    by_cases e : x = i
    · rw [if_pos e, if_pos e]
    · rw [if_neg e, if_neg e, ih ((List.mem_cons.1 h).resolve_left fun h2 => e h2.symm)]
theorem pos_right : ∀ {l m : List Nat} {i : Nat}, i ∉ l → pos (l ++ m) i = l.length + pos m i := by
  intro l
  induction l with
  | nil => intro m i _; simp
  | cons x l ih =>
    intro m i h
    have e : x ≠ i := fun e => h (by rw [e]; exact List.mem_cons_self ..)
    show (if x = i then 0 else pos (l ++ m) i + 1) = _
    rw [if_neg e, ih fun h2 => h (List.mem_cons_of_mem _ h2)]
    simp; omega
theorem Topo.pos {T : Plan} {o : List Nat} (h : Topo T o) {i : Nat} (hi : i ∈ o) {k : Nat} (hk : k < T.lc i) : Plan.pos o (T.to i k) < Plan.pos o i := by
  obtain ⟨a, b, rfl⟩ := List.append_of_mem hi
  obtain ⟨_, h1, h2⟩ := h a i b rfl
  have h3 := h2 k hk
  rw [pos_left h3, pos_right h1]
  have := pos_lt h3
  omega
/-- The first task that ends last. -/
def amx (T : Plan) (s : Nat → Int) : Nat → Nat
  | 0 => 0
  | k + 1 => if s (amx T s k) + T.len (amx T s k) < s k + T.len k then k else amx T s k
theorem amx_lt {T : Plan} {s : Nat → Int} (hn : 0 < T.n) : ∀ k, k ≤ T.n → amx T s k < T.n := by
  intro k
  induction k with
  | zero => intro _; exact hn
  | succ k ih =>
    intro hk
    unfold amx
    split
    · omega
    · exact ih (by omega)
theorem amx_max {T : Plan} {s : Nat → Int} : ∀ k j, j < k → s j + T.len j ≤ s (amx T s k) + T.len (amx T s k) := by
  intro k
  induction k with
  | zero => intro j hj; exact absurd hj (Nat.not_lt_zero j)
  | succ k ih =>
    intro j hj
    unfold amx
    by_cases e : s (amx T s k) + T.len (amx T s k) < s k + T.len k
    · rw [if_pos e]
      by_cases e2 : j = k
      · subst e2; exact Int.le_refl _
      · have := ih j (by omega); omega
    · rw [if_neg e]
      by_cases e2 : j = k
      · subst e2; omega
      · exact ih j (by omega)
theorem last_amx {T : Plan} (hT : T.Ok) {s : Nat → Int} (hs : ∀ i, i < T.n → 0 ≤ s i) (hn : 0 < T.n) : last T s T.n = s (amx T s T.n) + T.len (amx T s T.n) := by
  have h1 := amx_lt (s := s) hn T.n (Nat.le_refl _)
  refine Int.le_antisymm ((last_le T.n).2 ⟨?_, fun k hk => amx_max T.n k hk⟩) (((last_le (T := T) (s := s) T.n).1 (Int.le_refl _)).2 _ h1)
  have h2 := hs _ h1
  have h3 := (hT.task _ h1).head.1.1
  omega
/-- One step back along the path: to the task of the first link that holds a task back. -/
def StepR (T : Plan) (s : Nat → Int) (a b : Nat) : Prop := s a ≠ T.nb a ∧ ∃ k, k < T.lc a ∧ T.to a k = b ∧ s b + T.wait a k = s a ∧ ∀ j, j < k → s (T.to a j) + T.wait a j ≠ s a
theorem StepR.one {T : Plan} {s : Nat → Int} {a b c : Nat} (h : StepR T s a b) (h' : StepR T s a c) : b = c := by
  obtain ⟨_, k, _, h2, h3, h4⟩ := h
  obtain ⟨_, j, _, g2, g3, g4⟩ := h'
  have e : k = j := by
    rcases Nat.lt_trichotomy k j with h | h | h
    · exact absurd (by rw [h2]; exact h3) (g4 k h)
    · exact h
    · exact absurd (by rw [g2]; exact g3) (h4 j h)
  subst e
  rw [← h2, ← g2]
/-- A path, from its end. -/
def Chain (T : Plan) (s : Nat → Int) (out : List Nat) : Prop := 0 < out.length ∧ (∀ x, x ∈ out → x < T.n) ∧ ∀ j, j + 1 < out.length → StepR T s (out.getD j 0) (out.getD (j + 1) 0)
theorem Chain.start {T : Plan} (s : Nat → Int) {a : Nat} (ha : a < T.n) : Chain T s [a] := ⟨by simp, fun x hx => by rw [List.mem_singleton.1 hx]; exact ha, fun j hj => by simp at hj⟩
theorem Chain.snoc {T : Plan} {s : Nat → Int} {out : List Nat} (h : Chain T s out) {b : Nat} (hb : b < T.n) (hs : StepR T s (out.getD (out.length - 1) 0) b) : Chain T s (out ++ [b]) := by
  refine ⟨by simp, fun x hx => ?_, fun j hj => ?_⟩
  · rcases List.mem_append.1 hx with h1 | h1
    · exact h.2.1 x h1
    · rw [List.mem_singleton.1 h1]; exact hb
  · have h0 := h.1
    simp only [List.length_append, List.length_cons, List.length_nil, Nat.zero_add] at hj
    have e1 : (out ++ [b]).getD j 0 = out.getD j 0 := by simp [List.getD, List.getElem?_append_left (show j < out.length by omega)]
    rw [e1]
    by_cases e : j + 1 < out.length
    · have e2 : (out ++ [b]).getD (j + 1) 0 = out.getD (j + 1) 0 := by simp [List.getD, List.getElem?_append_left e]
      rw [e2]; exact h.2.2 j e
    · have e3 : j + 1 = out.length := by omega
      have e2 : (out ++ [b]).getD (j + 1) 0 = b := by rw [e3]; simp [List.getD]
      rw [e2]
      have e4 : out.length - 1 = j := by omega
      rw [e4] at hs
      exact hs
theorem Chain.lt {T : Plan} {s : Nat → Int} {out : List Nat} (h : Chain T s out) {j : Nat} (hj : j < out.length) : out.getD j 0 < T.n := by
  have e : out.getD j 0 = out[j] := by simp [List.getD, hj]
  rw [e]; exact h.2.1 _ (List.getElem_mem hj)
/-- The whole path, from its end: its first task waits for none. -/
def PathL (T : Plan) (s : Nat → Int) (out : List Nat) : Prop := Chain T s out ∧ out.getD 0 0 = amx T s T.n ∧ s (out.getD (out.length - 1) 0) = T.nb (out.getD (out.length - 1) 0)
theorem PathL.at {T : Plan} {s : Nat → Int} {o p : List Nat} (h : PathL T s o) (h' : PathL T s p) : ∀ j, j < o.length → j < p.length ∧ o.getD j 0 = p.getD j 0 := by
  intro j
  induction j with
  | zero => intro _; exact ⟨h'.1.1, by rw [h.2.1, h'.2.1]⟩
  | succ j ih =>
    intro hj
    obtain ⟨h1, h2⟩ := ih (by omega)
    have h3 := h.1.2.2 j hj
    have h4 : j + 1 < p.length := Classical.byContradiction fun hn => by
      have e : p.length - 1 = j := by omega
      have h5 := h'.2.2
      rw [e, ← h2] at h5
      exact h3.1 h5
    have h6 := h'.1.2.2 j h4
    rw [← h2] at h6
    exact ⟨h4, h3.one h6⟩
theorem PathL.one {T : Plan} {s : Nat → Int} {o p : List Nat} (h : PathL T s o) (h' : PathL T s p) : o = p := by
  have hl : o.length = p.length := by
    have h0 := h.1.1
    have h1 := h'.1.1
    have h2 := (h.at h' (o.length - 1) (by omega)).1
    have h3 := (h'.at h (p.length - 1) (by omega)).1
    omega
  refine List.ext_getElem hl fun j h1 h2 => ?_
  have := (h.at h' j h1).2
  simpa [List.getD, h1, h2] using this
/-- Along the path nothing can be later. -/
theorem PathL.critical {T : Plan} (hT : T.Ok) {s q : Nat → Int} (hs : Fix T s) (hp : ∀ i, i < T.n → 0 ≤ s i) (hq : Latest T (last T s T.n) q) {out : List Nat} (h : PathL T s out) : ∀ j, j < out.length → s (out.getD j 0) = q (out.getD j 0) := by
  have hge : ∀ i, i < T.n → s i ≤ q i := fun i hi => hq.2 s ⟨fun j hj => by have := ((last_le (T := T) (s := s) T.n).1 (Int.le_refl _)).2 j hj; omega, fun i hi k hk => (hs.feas i hi).2 k hk⟩ i hi
  have h0 := h.1.lt h.1.1
  have hn : 0 < T.n := by omega
  intro j
  induction j with
  | zero =>
    intro _
    have h1 := hq.1.1 _ h0
    have h2 := last_amx hT hp hn
    rw [← h.2.1] at h2
    have h3 := hge _ h0
    omega
  | succ j ih =>
    intro hj
    have h1 := ih (by omega)
    obtain ⟨_, k, hk, h2, h3, _⟩ := h.1.2.2 j hj
    have h4 := hq.1.2 _ (h.1.lt (show j < out.length by omega)) k hk
    have h5 := hge _ (h.1.lt hj)
    rw [h2] at h4
    omega
/-- The tasks that can't be later. -/
def critL (s q : Nat → Int) : Nat → List Nat
  | 0 => []
  | k + 1 => if s k = q k then critL s q k ++ [k] else critL s q k
theorem mem_critL {s q : Nat → Int} : ∀ k i, i ∈ critL s q k ↔ i < k ∧ s i = q i := by
  intro k
  induction k with
  | zero => intro i; simp [critL]
  | succ k ih =>
    intro i
    unfold critL
    by_cases e : s k = q k
    · rw [if_pos e, List.mem_append, List.mem_singleton, ih]
      constructor
      · rintro (⟨h1, h2⟩ | rfl)
        · exact ⟨by omega, h2⟩
        · exact ⟨by omega, e⟩
      · rintro ⟨h1, h2⟩
        by_cases e2 : i = k
        · exact .inr e2
        · exact .inl ⟨by omega, h2⟩
    · rw [if_neg e, ih]
      constructor
      · rintro ⟨h1, h2⟩; exact ⟨by omega, h2⟩
      · rintro ⟨h1, h2⟩
        refine ⟨?_, h2⟩
        by_cases e2 : i = k
        · subst e2; exact absurd h2 e
        · omega
theorem critL_len (s q : Nat → Int) : ∀ k, (critL s q k).length ≤ k := by
  intro k
  induction k with
  | zero => exact Nat.le_refl _
  | succ k ih =>
    unfold critL
    split
    · simp; omega
    · omega
/-- A link that holds a task back. -/
theorem mx_tight {T : Plan} {s : Nat → Int} {i : Nat} : ∀ m, mx T s i m = T.nb i ∨ ∃ k, k < m ∧ s (T.to i k) + T.wait i k = mx T s i m := by
  intro m
  induction m with
  | zero => exact .inl rfl
  | succ m ih =>
    unfold mx
    rcases Int.le_total (mx T s i m) (s (T.to i m) + T.wait i m) with h | h
    · rw [Int.max_eq_right h]; exact .inr ⟨m, by omega, rfl⟩
    · rw [Int.max_eq_left h]
      rcases ih with h1 | ⟨k, h1, h2⟩
      · exact .inl h1
      · exact .inr ⟨k, by omega, h2⟩
theorem Fix.tight {T : Plan} {s : Nat → Int} (h : Fix T s) {i : Nat} (hi : i < T.n) (hne : s i ≠ T.nb i) : ∃ k, k < T.lc i ∧ s (T.to i k) + T.wait i k = s i := by
  have h1 := h i hi
  rcases mx_tight (T := T) (s := s) (i := i) (T.lc i) with h2 | ⟨k, h2, h3⟩
  · exact absurd (h1.trans h2) hne
  · exact ⟨k, h2, h3.trans h1.symm⟩
end Plan
end Go.Proofs.YthhaopdimilmcaaDoor
