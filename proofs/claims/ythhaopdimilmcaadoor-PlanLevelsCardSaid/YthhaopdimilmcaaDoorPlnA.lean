/- Plans in plain Lean: tasks, links, orders, the soonest and the latest times. -/
import Derived.RowKit
namespace Go.Proofs.YthhaopdimilmcaaDoor
/-- The first that is not 0. -/
def firstE (f : Nat → Int) : Nat → Int
  | 0 => 0
  | k + 1 => if firstE f k ≠ 0 then firstE f k else f k
theorem firstE_zero {f : Nat → Int} {k : Nat} (h : ∀ i, i < k → f i = 0) : firstE f k = 0 := by
  induction k with
  | zero => rfl
  | succ k ih => unfold firstE; rw [if_neg (by simpa using ih fun i hi => h i (by omega))]; exact h k (by omega)
theorem firstE_hit {f : Nat → Int} {i : Nat} (h : ∀ j, j < i → f j = 0) (hf : f i ≠ 0) : ∀ k, i < k → firstE f k = f i := by
  intro k
  induction k with
  | zero => intro h; exact absurd h (Nat.not_lt_zero i)
  | succ k ih =>
    intro hik
    by_cases e : i = k
    · subst e
      unfold firstE
      rw [if_neg (by simpa using firstE_zero h)]
    · have := ih (by omega)
      unfold firstE
      rw [this, if_pos hf]
theorem firstE_all {f : Nat → Int} {k : Nat} (h : firstE f k = 0) : ∀ i, i < k → f i = 0 := by
  induction k with
  | zero => intro i hi; exact absurd hi (Nat.not_lt_zero i)
  | succ k ih =>
    intro i hi
    unfold firstE at h
    by_cases e : firstE f k = 0
    · rw [if_neg (by simpa using e)] at h
      by_cases e2 : i = k
      · subst e2; exact h
      · exact ih e i (by omega)
    · rw [if_pos e] at h; exact absurd h e
structure Plan where
  n : Nat
  len : Nat → Int
  nb : Nat → Int
  lc : Nat → Nat
  lt : Nat → Nat → Int
  lk : Nat → Nat → Int
  lg : Nat → Nat → Int
  uc : Nat → Nat
  us : Nat → Nat → Int
namespace Plan
def to (T : Plan) (i k : Nat) : Nat := (T.lt i k).toNat
/-- How long a task begins behind the one on which its k-th link hangs it. -/
def wait (T : Plan) (i k : Nat) : Int :=
  if T.lk i k = 1 then T.len (T.to i k) + T.lg i k else if T.lk i k = 2 then T.lg i k else if T.lk i k = 3 then T.len (T.to i k) + T.lg i k - T.len i else T.lg i k - T.len i
def LinkOk (T : Plan) (i k : Nat) : Prop := (0 ≤ T.lt i k ∧ T.lt i k < T.n) ∧ (1 ≤ T.lk i k ∧ T.lk i k ≤ 4) ∧ -1000000 ≤ T.lg i k ∧ T.lg i k ≤ 1000000
def HeadOk (T : Plan) (i : Nat) : Prop := (0 ≤ T.len i ∧ T.len i ≤ 1000000) ∧ (0 ≤ T.nb i ∧ T.nb i ≤ 1000000) ∧ T.lc i ≤ 60 ∧ T.uc i ≤ 8
def UseOk (T : Plan) (i k : Nat) : Prop := 0 ≤ T.us i k ∧ T.us i k ≤ 1000000
instance (T : Plan) (i k : Nat) : Decidable (LinkOk T i k) := by unfold LinkOk; infer_instance
instance (T : Plan) (i : Nat) : Decidable (HeadOk T i) := by unfold HeadOk; infer_instance
instance (T : Plan) (i k : Nat) : Decidable (UseOk T i k) := by unfold UseOk; infer_instance
/-- What is wrong with a link, a use, a task. -/
def lb (T : Plan) (i k : Nat) : Int := if LinkOk T i k then (if T.lt i k = i then 14 else 0) else 1
def ub (T : Plan) (i k : Nat) : Int := if UseOk T i k then 0 else 1
def tb (T : Plan) (i : Nat) : Int := if HeadOk T i then (if firstE (T.lb i) (T.lc i) ≠ 0 then firstE (T.lb i) (T.lc i) else firstE (T.ub i) (T.uc i)) else 1
structure TaskOk (T : Plan) (i : Nat) : Prop where
  head : HeadOk T i
  link : ∀ k, k < T.lc i → LinkOk T i k ∧ T.lt i k ≠ i
  use : ∀ k, k < T.uc i → UseOk T i k
theorem tb_ok {T : Plan} {i : Nat} (h : T.tb i = 0) : TaskOk T i := by
  unfold tb at h
  by_cases h1 : HeadOk T i
  · rw [if_pos h1] at h
    by_cases h2 : firstE (T.lb i) (T.lc i) = 0
    · rw [if_neg (by simpa using h2)] at h
      refine ⟨h1, fun k hk => ?_, fun k hk => ?_⟩
      · have := firstE_all h2 k hk
        unfold lb at this
        by_cases h3 : LinkOk T i k
        · rw [if_pos h3] at this
          refine ⟨h3, fun e => ?_⟩
          rw [if_pos e] at this
          exact absurd this (by decide)
        · rw [if_neg h3] at this; exact absurd this (by decide)
      · have := firstE_all h k hk
        unfold ub at this
        by_cases h3 : UseOk T i k
        · exact h3
        · rw [if_neg h3] at this; exact absurd this (by decide)
    · rw [if_pos h2] at h; exact absurd h h2
  · rw [if_neg h1] at h; exact absurd h (by decide)
theorem ok_tb {T : Plan} {i : Nat} (h : TaskOk T i) : T.tb i = 0 := by
  unfold tb
  rw [if_pos h.head, firstE_zero fun k hk => ?_, if_neg (by simp), firstE_zero fun k hk => ?_]
  · unfold ub; rw [if_pos (h.use k hk)]
  · unfold lb; rw [if_pos (h.link k hk).1, if_neg (h.link k hk).2]
/-- Tasks, each behind those on which it hangs. -/
def Topo (T : Plan) (out : List Nat) : Prop := ∀ (a : List Nat) (i : Nat) (b : List Nat), out = a ++ i :: b → i < T.n ∧ i ∉ a ∧ ∀ k, k < T.lc i → T.to i k ∈ a
theorem Topo.nil (T : Plan) : Topo T [] := fun a i b h => by cases a <;> simp at h
theorem Topo.snoc {T : Plan} {out : List Nat} (h : Topo T out) {i : Nat} (hi : i < T.n) (hn : i ∉ out) (hl : ∀ k, k < T.lc i → T.to i k ∈ out) : Topo T (out ++ [i]) := by
  intro a j b e
  rcases List.eq_nil_or_concat b with rfl | ⟨b', x, rfl⟩
  · have e2 : out ++ [i] = a ++ [j] := e
    obtain ⟨rfl, e3⟩ := List.append_inj' e2 rfl
    simp only [List.cons.injEq, and_true] at e3
    subst e3
    exact ⟨hi, hn, hl⟩
  · have e2 : out ++ [i] = (a ++ j :: b') ++ [x] := by rw [e]; simp
    obtain ⟨rfl, _⟩ := List.append_inj' e2 rfl
    exact h a j b' rfl
theorem Topo.head {T : Plan} {a b : List Nat} (h : Topo T (a ++ b)) : Topo T a := fun a' i b' e => h a' i (b' ++ b) (by rw [e]; simp)
theorem Topo.ind {T : Plan} {P : Nat → Prop} : ∀ (m : Nat) (out : List Nat), out.length = m → Topo T out → (∀ i, i < T.n → i ∈ out → (∀ k, k < T.lc i → P (T.to i k)) → P i) → ∀ i, i ∈ out → P i := by
  intro m
  induction m with
  | zero => intro out h0 _ _ i hi; rw [List.length_eq_zero_iff.1 h0] at hi; simp at hi
  | succ m ih =>
    intro out hl h step
    rcases List.eq_nil_or_concat out with rfl | ⟨o, x, e⟩
    · simp at hl
    · have e' : out = o ++ [x] := by rw [e]; simp
      subst e'
      have hP := ih o (by simpa using hl) h.head (fun i hi hio => step i hi (List.mem_append.2 (.inl hio)))
      intro i hi
      rcases List.mem_append.1 hi with h1 | h1
      · exact hP i h1
      · obtain rfl := List.mem_singleton.1 h1
        obtain ⟨h2, _, h3⟩ := h o i [] rfl
        exact step i h2 hi fun k hk => hP _ (h3 k hk)
theorem Topo.all {T : Plan} {P : Nat → Prop} {out : List Nat} (h : Topo T out) (step : ∀ i, i < T.n → i ∈ out → (∀ k, k < T.lc i → P (T.to i k)) → P i) : ∀ i, i ∈ out → P i := Topo.ind _ out rfl h step
theorem Topo.lt {T : Plan} {out : List Nat} (h : Topo T out) {i : Nat} (hi : i ∈ out) : i < T.n := by
  obtain ⟨a, b, rfl⟩ := List.append_of_mem hi
  exact (h a i b rfl).1
theorem Topo.links {T : Plan} {out : List Nat} (h : Topo T out) {i : Nat} (hi : i ∈ out) {k : Nat} (hk : k < T.lc i) : T.to i k ∈ out := by
  obtain ⟨a, b, rfl⟩ := List.append_of_mem hi
  exact List.mem_append.2 (.inl ((h a i b rfl).2.2 k hk))
theorem Topo.nodup {T : Plan} {out : List Nat} (h : Topo T out) : out.Nodup := by
  have : ∀ (m : Nat) (o : List Nat), o.length = m → Topo T o → o.Nodup := by
    intro m
    induction m with
    | zero => intro o h0 _; rw [List.length_eq_zero_iff.1 h0]; exact List.nodup_nil
    | succ m ih =>
      intro o hl ho
      rcases List.eq_nil_or_concat o with rfl | ⟨o', x, e⟩
      · exact List.nodup_nil
      · have e' : o = o' ++ [x] := by rw [e]; simp
        subst e'
        rw [List.nodup_append]
        refine ⟨ih o' (by simpa using hl) ho.head, by simp, fun a ha b hb e2 => ?_⟩
        obtain rfl := List.mem_singleton.1 hb
        subst e2
        exact (ho o' a [] rfl).2.1 ha
  exact this _ out rfl h
theorem nodup_le : ∀ (l m : List Nat), l.Nodup → (∀ x, x ∈ l → x ∈ m) → l.length ≤ m.length := by
  intro l
  induction l with
  | nil => intro m _ _; exact Nat.zero_le _
  | cons a l ih =>
    intro m hn hs
    have ha := hs a (List.mem_cons_self ..)
    have h1 := ih (m.erase a) (List.nodup_cons.1 hn).2 fun x hx => (List.mem_erase_of_ne (fun e => by subst e; exact (List.nodup_cons.1 hn).1 hx)).2 (hs x (List.mem_cons_of_mem _ hx))
    have h2 := List.length_erase_of_mem ha
    have h3 := List.length_pos_of_mem ha
    simp only [List.length_cons]
    omega
theorem Topo.length_le {T : Plan} {out : List Nat} (h : Topo T out) : out.length ≤ T.n := by
  have := nodup_le out (List.range T.n) h.nodup fun x hx => List.mem_range.2 (h.lt hx)
  simpa using this
theorem Topo.full {T : Plan} {out : List Nat} (h : Topo T out) (hl : out.length = T.n) {i : Nat} (hi : i < T.n) : i ∈ out := by
  refine Classical.byContradiction fun hn => ?_
  have := nodup_le (i :: out) (List.range T.n) (List.nodup_cons.2 ⟨hn, h.nodup⟩) fun x hx => by
    rcases List.mem_cons.1 hx with rfl | hx
    · exact List.mem_range.2 hi
    · exact List.mem_range.2 (h.lt hx)
  simp at this
  omega
/-- No task more can follow. -/
def Stuck (T : Plan) (out : List Nat) : Prop := Topo T out ∧ ∀ i, i < T.n → i ∉ out → ∃ k, k < T.lc i ∧ T.to i k ∉ out
def Full (T : Plan) : Prop := ∃ out, Topo T out ∧ out.length = T.n
theorem Stuck.not_full {T : Plan} {out : List Nat} (h : Stuck T out) (hl : out.length < T.n) : ¬ Full T := by
  rintro ⟨o, ho, hlo⟩
  have hall : ∀ i, i ∈ o → i ∈ out := ho.all fun i hi _ hk => Classical.byContradiction fun hn => by
    obtain ⟨k, hk1, hk2⟩ := h.2 i hi hn
    exact hk2 (hk k hk1)
  have := nodup_le o out ho.nodup hall
  omega
theorem Stuck.length {T : Plan} {out o : List Nat} (h : Stuck T out) (ho : Topo T o) : o.length ≤ out.length :=
  nodup_le o out ho.nodup (ho.all fun i hi _ hk => Classical.byContradiction fun hn => by
    obtain ⟨k, hk1, hk2⟩ := h.2 i hi hn
    exact hk2 (hk k hk1))
/-- What is wrong with a plan. -/
noncomputable def chk (T : Plan) : Int := open Classical in if 60 < T.n then 6 else if firstE T.tb T.n ≠ 0 then firstE T.tb T.n else if Full T then 0 else 14
structure Ok (T : Plan) : Prop where
  size : T.n ≤ 60
  task : ∀ i, i < T.n → TaskOk T i
  full : Full T
theorem chk_ok {T : Plan} (h : T.chk = 0) : Ok T := by
  unfold chk at h
  by_cases h1 : 60 < T.n
  · rw [if_pos h1] at h; exact absurd h (by decide)
  · rw [if_neg h1] at h
    by_cases h2 : firstE T.tb T.n = 0
    · rw [if_neg (by simpa using h2)] at h
      by_cases h3 : Full T
      · exact ⟨by omega, fun i hi => tb_ok (firstE_all h2 i hi), h3⟩
      · rw [if_neg h3] at h; exact absurd h (by decide)
    · rw [if_pos h2] at h; exact absurd h h2
theorem ok_chk {T : Plan} (h : Ok T) : T.chk = 0 := by
  unfold chk
  have h1 := h.size
  rw [if_neg (by omega), firstE_zero fun i hi => ok_tb (h.task i hi), if_neg (by simp), if_pos h.full]
theorem wait_bd {T : Plan} (h : Ok T) {i k : Nat} (hi : i < T.n) (hk : k < T.lc i) : -2000000 ≤ T.wait i k ∧ T.wait i k ≤ 2000000 := by
  obtain ⟨⟨⟨a1, a2⟩, _⟩, h2, _⟩ := h.task i hi
  obtain ⟨⟨⟨b1, b2⟩, _, b3, b4⟩, _⟩ := h2 k hk
  have hto : T.to i k < T.n := by unfold to; omega
  obtain ⟨⟨⟨c1, c2⟩, _⟩, _, _⟩ := h.task _ hto
  unfold wait
  repeat' split
  all_goals omega
theorem to_lt {T : Plan} (h : Ok T) {i k : Nat} (hi : i < T.n) (hk : k < T.lc i) : T.to i k < T.n ∧ T.to i k ≠ i ∧ T.lt i k = (T.to i k : Int) := by
  obtain ⟨_, h2, _⟩ := h.task i hi
  obtain ⟨⟨⟨b1, b2⟩, _⟩, b5⟩ := h2 k hk
  unfold to
  refine ⟨by omega, fun e => b5 (by omega), by omega⟩
/-- The soonest that the first links of a task allow. -/
def mx (T : Plan) (s : Nat → Int) (i : Nat) : Nat → Int
  | 0 => T.nb i
  | k + 1 => max (mx T s i k) (s (T.to i k) + T.wait i k)
theorem mx_le {T : Plan} {s : Nat → Int} {i : Nat} {v : Int} : ∀ m, mx T s i m ≤ v ↔ T.nb i ≤ v ∧ ∀ k, k < m → s (T.to i k) + T.wait i k ≤ v := by
  intro m
  induction m with
  | zero => exact ⟨fun h => ⟨h, fun k hk => absurd hk (Nat.not_lt_zero k)⟩, fun h => h.1⟩
  | succ m ih =>
    unfold mx
    constructor
    · intro h
      have h1 := ih.1 (Int.le_trans (Int.le_max_left _ _) h)
      refine ⟨h1.1, fun k hk => ?_⟩
      by_cases e : k = m
      · subst e; exact Int.le_trans (Int.le_max_right _ _) h
      · exact h1.2 k (by omega)
    · intro h
      exact Int.max_le.2 ⟨ih.2 ⟨h.1, fun k hk => h.2 k (by omega)⟩, h.2 m (by omega)⟩
theorem mx_congr {T : Plan} {s s' : Nat → Int} {i : Nat} : ∀ m, (∀ k, k < m → s (T.to i k) = s' (T.to i k)) → mx T s i m = mx T s' i m := by
  intro m
  induction m with
  | zero => intro _; rfl
  | succ m ih => intro h; unfold mx; rw [ih fun k hk => h k (by omega), h m (by omega)]
/-- Beginnings that the links allow; the soonest of all. -/
def Feas (T : Plan) (s : Nat → Int) : Prop := ∀ i, i < T.n → T.nb i ≤ s i ∧ ∀ k, k < T.lc i → s (T.to i k) + T.wait i k ≤ s i
def Fix (T : Plan) (s : Nat → Int) : Prop := ∀ i, i < T.n → s i = mx T s i (T.lc i)
theorem Fix.feas {T : Plan} {s : Nat → Int} (h : Fix T s) : Feas T s := fun i hi => (mx_le _).1 (Int.le_of_eq (h i hi).symm)
theorem Fix.least {T : Plan} (hF : Full T) {s t : Nat → Int} (h : Fix T s) (ht : Feas T t) : ∀ i, i < T.n → s i ≤ t i := by
  obtain ⟨o, ho, hl⟩ := hF
  have : ∀ i, i ∈ o → s i ≤ t i := ho.all fun i hi _ hk => by
    rw [h i hi]
    refine (mx_le _).2 ⟨(ht i hi).1, fun k hk2 => ?_⟩
    have h1 := hk k hk2
    have h2 := (ht i hi).2 k hk2
    omega
  exact fun i hi => this i (ho.full hl hi)
theorem Fix.unique {T : Plan} (hF : Full T) {s t : Nat → Int} (h : Fix T s) (h' : Fix T t) : ∀ i, i < T.n → s i = t i := fun i hi =>
  Int.le_antisymm (h.least hF h'.feas i hi) (h'.least hF h.feas i hi)
/-- Beginnings so that all is done by a time; the latest of all. -/
def UFeas (T : Plan) (y : Int) (q : Nat → Int) : Prop := (∀ j, j < T.n → q j ≤ y - T.len j) ∧ ∀ i, i < T.n → ∀ k, k < T.lc i → q (T.to i k) + T.wait i k ≤ q i
def Latest (T : Plan) (y : Int) (q : Nat → Int) : Prop := UFeas T y q ∧ ∀ q', UFeas T y q' → ∀ j, j < T.n → q' j ≤ q j
theorem Latest.unique {T : Plan} {y : Int} {q r : Nat → Int} (h : Latest T y q) (h' : Latest T y r) : ∀ j, j < T.n → q j = r j := fun j hj =>
  Int.le_antisymm (h'.2 q h.1 j hj) (h.2 r h'.1 j hj)
/-- When all is done. -/
def last (T : Plan) (s : Nat → Int) : Nat → Int
  | 0 => 0
  | k + 1 => max (last T s k) (s k + T.len k)
theorem last_le {T : Plan} {s : Nat → Int} {v : Int} : ∀ m, last T s m ≤ v ↔ 0 ≤ v ∧ ∀ k, k < m → s k + T.len k ≤ v := by
  intro m
  induction m with
  | zero => exact ⟨fun h => ⟨h, fun k hk => absurd hk (Nat.not_lt_zero k)⟩, fun h => h.1⟩
  | succ m ih =>
    unfold last
    constructor
    · intro h
      have h1 := ih.1 (Int.le_trans (Int.le_max_left _ _) h)
      refine ⟨h1.1, fun k hk => ?_⟩
      by_cases e : k = m
      · subst e; exact Int.le_trans (Int.le_max_right _ _) h
      · exact h1.2 k (by omega)
    · intro h
      exact Int.max_le.2 ⟨ih.2 ⟨h.1, fun k hk => h.2 k (by omega)⟩, h.2 m (by omega)⟩
theorem last_congr {T : Plan} {s s' : Nat → Int} : ∀ m, (∀ k, k < m → s k = s' k) → last T s m = last T s' m := by
  intro m
  induction m with
  | zero => intro _; rfl
  | succ m ih => intro h; unfold last; rw [ih fun k hk => h k (by omega), h m (by omega)]
theorem last_mono {T : Plan} {s s' : Nat → Int} {m : Nat} (h : ∀ k, k < m → s k ≤ s' k) : last T s m ≤ last T s' m := by
  have h0 := (last_le (T := T) (s := s') m).1 (Int.le_refl _)
  refine (last_le m).2 ⟨h0.1, fun k hk => ?_⟩
  have := h k hk
  have := h0.2 k hk
  omega
/-- Beginnings under way: so many tasks of an order have theirs. -/
def EarlyAt (T : Plan) (o : List Nat) (p : Nat) (s : Nat → Int) : Prop := (∀ i, i < T.n → 0 ≤ s i ∧ s i ≤ 1000000 + 2000000 * (p : Int)) ∧ ∀ i, i ∈ o.take p → s i = mx T s i (T.lc i)
def upd (s : Nat → Int) (i : Nat) (v : Int) : Nat → Int := fun j => if j = i then v else s j
theorem upd_at (s : Nat → Int) (i : Nat) (v : Int) : upd s i v i = v := if_pos rfl
theorem upd_ne (s : Nat → Int) {i j : Nat} (v : Int) (h : j ≠ i) : upd s i v j = s j := if_neg h
theorem EarlyAt.zero (T : Plan) (o : List Nat) : EarlyAt T o 0 (fun _ => 0) := ⟨fun i _ => ⟨Int.le_refl 0, by show (0 : Int) ≤ 1000000 + 2000000 * ((0 : Nat) : Int); omega⟩, fun i hi => by simp at hi⟩
theorem mx_bd {T : Plan} (h : Ok T) {o : List Nat} {p : Nat} {s : Nat → Int} (hs : EarlyAt T o p s) {i : Nat} (hi : i < T.n) {m : Nat} (hm : m ≤ T.lc i) : 0 ≤ mx T s i m ∧ mx T s i m ≤ 1000000 + 2000000 * ((p + 1 : Nat) : Int) := by
  obtain ⟨⟨_, ⟨a1, a2⟩, _⟩, _, _⟩ := h.task i hi
  have h1 := (mx_le (T := T) (s := s) (i := i) m).1 (Int.le_refl _)
  refine ⟨by have := h1.1; omega, (mx_le m).2 ⟨by omega, fun k hk => ?_⟩⟩
  have h2 := wait_bd h hi (show k < T.lc i by omega)
  have h3 := hs.1 _ (to_lt h hi (show k < T.lc i by omega)).1
  omega
theorem EarlyAt.step {T : Plan} (h : Ok T) {o : List Nat} (ho : Topo T o) {p : Nat} {s : Nat → Int} (hs : EarlyAt T o p s) {i : Nat} (hp : o[p]? = some i) : EarlyAt T o (p + 1) (upd s i (mx T s i (T.lc i))) := by
  have hpl : p < o.length := (List.getElem?_eq_some_iff.1 hp).1
  have hsplit : o = o.take p ++ i :: o.drop (p + 1) := by
    have := List.drop_eq_getElem_cons hpl
    rw [(List.getElem?_eq_some_iff.1 hp).2] at this
    rw [← this]; simp
  obtain ⟨hi, hni, hli⟩ := ho _ i _ hsplit
  have hb := mx_bd h hs hi (Nat.le_refl _)
  have htk : o.take (p + 1) = o.take p ++ [i] := by rw [List.take_add_one, hp]; rfl
  have hpre : Topo T (o.take p) := Topo.head (b := i :: o.drop (p + 1)) (by rw [← hsplit]; exact ho)
  refine ⟨fun j hj => ?_, fun j hj => ?_⟩
  · by_cases e : j = i
    · subst e; rw [upd_at]; exact hb
    · rw [upd_ne _ _ e]
      have := hs.1 j hj
      omega
  · rw [htk] at hj
    rcases List.mem_append.1 hj with h1 | h1
    · have e : j ≠ i := fun e => by subst e; exact hni h1
      rw [upd_ne _ _ e, hs.2 j h1]
      refine mx_congr _ fun k hk => (upd_ne _ _ fun e2 => ?_).symm
      exact hni (e2 ▸ hpre.links h1 hk)
    · obtain rfl := List.mem_singleton.1 h1
      rw [upd_at]
      refine mx_congr _ fun k hk => (upd_ne _ _ fun e2 => ?_).symm
      exact hni (e2 ▸ hli k hk)
theorem EarlyAt.fix {T : Plan} {o : List Nat} (ho : Topo T o) (hl : o.length = T.n) {s : Nat → Int} (hs : EarlyAt T o T.n s) : Fix T s := fun i hi => hs.2 i (by rw [List.take_of_length_le (by omega)]; exact ho.full hl hi)
/-- Latest beginnings under way: so many tasks from an order's end have theirs. -/
def LateAt (T : Plan) (y : Int) (o : List Nat) (p : Nat) (q : Nat → Int) : Prop :=
  (∀ j, j < T.n → q j ≤ y - T.len j ∧ y - 1000000 - 2000000 * (p : Int) ≤ q j) ∧ (∀ i, i ∈ o.drop (T.n - p) → ∀ k, k < T.lc i → q (T.to i k) + T.wait i k ≤ q i) ∧ ∀ q', UFeas T y q' → ∀ j, j < T.n → q' j ≤ q j
theorem LateAt.zero {T : Plan} (h : Ok T) (y : Int) {o : List Nat} (hl : o.length = T.n) : LateAt T y o 0 (fun j => y - T.len j) :=
  ⟨fun j hj => ⟨Int.le_refl _, by obtain ⟨⟨⟨a1, a2⟩, _⟩, _, _⟩ := h.task j hj; show y - 1000000 - 2000000 * ((0 : Nat) : Int) ≤ y - T.len j; omega⟩, fun i hi => by rw [Nat.sub_zero, List.drop_of_length_le (by omega)] at hi; simp at hi, fun q' hq j hj => hq.1 j hj⟩
/-- One task's links reckoned, the first m of them. -/
def mn (T : Plan) (q : Nat → Int) (i : Nat) : Nat → Nat → Int
  | 0 => q
  | k + 1 => upd (mn T q i k) (T.to i k) (min (mn T q i k (T.to i k)) (mn T q i k i - T.wait i k))
theorem mn_own {T : Plan} (h : Ok T) (q : Nat → Int) {i : Nat} (hi : i < T.n) : ∀ m, m ≤ T.lc i → mn T q i m i = q i := by
  intro m
  induction m with
  | zero => intro _; rfl
  | succ m ih => intro hm; unfold mn; rw [upd_ne _ _ (to_lt h hi (show m < T.lc i by omega)).2.1.symm]; exact ih (by omega)
theorem mn_far {T : Plan} (q : Nat → Int) {i j : Nat} : ∀ m, (∀ k, k < m → T.to i k ≠ j) → mn T q i m j = q j := by
  intro m
  induction m with
  | zero => intro _; rfl
  | succ m ih => intro hm; unfold mn; rw [upd_ne _ _ (hm m (by omega)).symm]; exact ih fun k hk => hm k (by omega)
theorem mn_le {T : Plan} (q : Nat → Int) (i j : Nat) : ∀ m, mn T q i m j ≤ q j := by
  intro m
  induction m with
  | zero => exact Int.le_refl _
  | succ m ih =>
    unfold mn
    by_cases e : j = T.to i m
    · subst e; rw [upd_at]; exact Int.le_trans (Int.min_le_left _ _) ih
    · rw [upd_ne _ _ e]; exact ih
theorem mn_link {T : Plan} (h : Ok T) (q : Nat → Int) {i : Nat} (hi : i < T.n) : ∀ m, m ≤ T.lc i → ∀ k, k < m → mn T q i m (T.to i k) + T.wait i k ≤ q i := by
  intro m
  induction m with
  | zero => intro _ k hk; exact absurd hk (Nat.not_lt_zero k)
  | succ m ih =>
    intro hm k hk
    have hown := mn_own h q hi m (by omega)
    unfold mn
    by_cases e : T.to i k = T.to i m
    · rw [e, upd_at]
      by_cases e2 : k = m
      · subst e2
        have := Int.min_le_right (mn T q i k (T.to i k)) (mn T q i k i - T.wait i k)
        omega
      · have h1 := ih (by omega) k (by omega)
        rw [e] at h1
        have := Int.min_le_left (mn T q i m (T.to i m)) (mn T q i m i - T.wait i m)
        omega
    · rw [upd_ne _ _ e]
      have e2 : k ≠ m := fun e2 => e (by rw [e2])
      exact ih (by omega) k (by omega)
theorem mn_ge {T : Plan} (h : Ok T) (q : Nat → Int) {i : Nat} (hi : i < T.n) (f : Nat → Int) (hf : ∀ j, j < T.n → f j ≤ q j) (hl : ∀ k, k < T.lc i → f (T.to i k) + T.wait i k ≤ q i) : ∀ m, m ≤ T.lc i → ∀ j, j < T.n → f j ≤ mn T q i m j := by
  intro m
  induction m with
  | zero => intro _ j hj; exact hf j hj
  | succ m ih =>
    intro hm j hj
    have hown := mn_own h q hi m (by omega)
    unfold mn
    by_cases e : j = T.to i m
    · subst e
      rw [upd_at, hown]
      have h1 := ih (by omega) _ hj
      have h2 := hl m (by omega)
      exact Int.le_min.2 ⟨h1, by omega⟩
    · rw [upd_ne _ _ e]; exact ih (by omega) j hj
theorem LateAt.step {T : Plan} (h : Ok T) {y : Int} {o : List Nat} (ho : Topo T o) (_hl : o.length = T.n) {p : Nat} {q : Nat → Int} (hq : LateAt T y o p q) (hp : p < T.n) {i : Nat} (hpi : o[T.n - 1 - p]? = some i) : LateAt T y o (p + 1) (mn T q i (T.lc i)) := by
  have hpl : T.n - 1 - p < o.length := (List.getElem?_eq_some_iff.1 hpi).1
  have hsplit : o = o.take (T.n - 1 - p) ++ i :: o.drop (T.n - p) := by
    have := List.drop_eq_getElem_cons hpl
    rw [(List.getElem?_eq_some_iff.1 hpi).2, show T.n - 1 - p + 1 = T.n - p by omega] at this
    rw [← this]; simp
  obtain ⟨hi, hni, hli⟩ := ho _ i _ hsplit
  have hnd := ho.nodup
  rw [hsplit] at hnd
  have hapart : ∀ j, j ∈ o.drop (T.n - p) → j ∉ o.take (T.n - 1 - p) := fun j hj hj2 => (List.nodup_append.1 hnd).2.2 j hj2 j (List.mem_cons_of_mem _ hj) rfl
  refine ⟨fun j hj => ⟨Int.le_trans (mn_le q i j _) (hq.1 j hj).1, ?_⟩, fun j hj k hk => ?_, fun q' hq' j hj => ?_⟩
  · refine mn_ge h q hi (fun _ => y - 1000000 - 2000000 * ((p + 1 : Nat) : Int)) (fun j hj => ?_) (fun k hk => ?_) _ (Nat.le_refl _) j hj
    · have := (hq.1 j hj).2
      omega
    · have h1 := wait_bd h hi hk
      have h2 := (hq.1 i hi).2
      omega
  · rw [show T.n - (p + 1) = T.n - 1 - p by omega, List.drop_eq_getElem_cons hpl, (List.getElem?_eq_some_iff.1 hpi).2, show T.n - 1 - p + 1 = T.n - p by omega] at hj
    rcases List.mem_cons.1 hj with rfl | hj
    · rw [mn_own h q hi _ (Nat.le_refl _)]
      exact mn_link h q hi _ (Nat.le_refl _) k hk
    · have e : mn T q i (T.lc i) j = q j := mn_far q _ fun k hk e => hapart _ hj (e ▸ hli k hk)
      rw [e]
      have h1 := hq.2.1 j hj k hk
      have h2 := mn_le (T := T) q i (T.to j k) (T.lc i)
      omega
  · refine mn_ge h q hi q' (fun j hj => hq.2.2 q' hq' j hj) (fun k hk => ?_) _ (Nat.le_refl _) j hj
    have h1 := hq'.2 i hi k hk
    have h2 := hq.2.2 q' hq' i hi
    omega
theorem LateAt.latest {T : Plan} {y : Int} {o : List Nat} (ho : Topo T o) (hl : o.length = T.n) {q : Nat → Int} (hq : LateAt T y o T.n q) : Latest T y q :=
  ⟨⟨fun j hj => (hq.1 j hj).1, fun i hi k hk => hq.2.1 i (by rw [Nat.sub_self, List.drop_zero]; exact ho.full hl hi) k hk⟩, hq.2.2⟩
/-- Whether a link holds, told by its ends. -/
theorem holds_iff (T : Plan) (i k : Nat) (hk : 1 ≤ T.lk i k ∧ T.lk i k ≤ 4) (a b : Int) : b + T.wait i k ≤ a ↔ (T.lk i k = 1 → b + T.len (T.to i k) + T.lg i k ≤ a) ∧ (T.lk i k = 2 → b + T.lg i k ≤ a) ∧ (T.lk i k = 3 → b + T.len (T.to i k) + T.lg i k ≤ a + T.len i) ∧ (T.lk i k = 4 → b + T.lg i k ≤ a + T.len i) := by
  have hc : T.lk i k = 1 ∨ T.lk i k = 2 ∨ T.lk i k = 3 ∨ T.lk i k = 4 := by omega
  unfold wait
  rcases hc with e | e | e | e <;> rw [e] <;> simp <;> omega
end Plan
end Go.Proofs.YthhaopdimilmcaaDoor
