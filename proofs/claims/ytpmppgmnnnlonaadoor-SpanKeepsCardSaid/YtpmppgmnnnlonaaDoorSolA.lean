/- The first spans that lie as a net says: searching by the closed net, or by the net itself, finds the same. Plain. -/
import Derived.Test.YtpmppgmnnnlonaaDoorSpanN
namespace Go.Proofs.YtpmppgmnnnlonaaDoor
open Go.RowKit
abbrev Pr := Nat × Nat
/-- A span that is tried. -/
def Cand (n : Nat) (x : Pr) : Prop := x.1 < x.2 ∧ x.2 < 2 * n
def plt (x y : Pr) : Prop := x.1 < y.1 ∨ x.1 = y.1 ∧ x.2 < y.2
/-- The spans t go on with the spans l, one by one. -/
def Ext (n : Nat) (acc : List Pr → Pr → Prop) : List Pr → List Pr → Prop
  | _, [] => True
  | l, x :: t => Cand n x ∧ acc l x ∧ Ext n acc (l ++ [x]) t
/-- The first ones that go on, of k spans. -/
def IsF (n : Nat) (acc : List Pr → Pr → Prop) : Nat → List Pr → Option (List Pr) → Prop
  | 0, _, r => r = some []
  | k + 1, l, r => (r = none ∧ ∀ x, Cand n x → acc l x → IsF n acc k (l ++ [x]) none) ∨ ∃ x t, Cand n x ∧ r = some (x :: t) ∧ acc l x ∧ IsF n acc k (l ++ [x]) (some t) ∧ ∀ y, Cand n y → plt y x → acc l y → IsF n acc k (l ++ [y]) none
def Lt : List Pr → List Pr → Prop
  | x :: t, y :: u => plt x y ∨ x = y ∧ Lt t u
  | _, _ => False
theorem plt_one {x y : Pr} (h : ¬ plt x y) (g : ¬ plt y x) : x = y := by
  unfold plt at h g
  obtain ⟨a, b⟩ := x
  obtain ⟨c, d⟩ := y
  simp only [Prod.mk.injEq]
  simp only at h g
  omega
theorem plt_not {x y : Pr} (h : plt x y) (g : plt y x) : False := by
  unfold plt at h g
  omega
theorem Lt_not : ∀ (t u : List Pr), Lt t u → Lt u t → False := by
  intro t
  induction t with
  | nil => intro u h _; exact h
  | cons x t ih =>
    intro u h g
    cases u with
    | nil => exact g
    | cons y u =>
      rcases h with h | ⟨rfl, h⟩
      · rcases g with g | ⟨rfl, _⟩
        · exact plt_not h g
        · exact plt_not h h
      · rcases g with g | ⟨_, g⟩
        · exact plt_not g g
        · exact ih u h g
theorem isF_none {n : Nat} {acc : List Pr → Pr → Prop} : ∀ (k : Nat) (l : List Pr), IsF n acc k l none → ∀ t, t.length = k → ¬ Ext n acc l t := by
  intro k
  induction k with
  | zero => intro l h; cases h
  | succ k ih =>
    intro l h t ht he
    cases t with
    | nil => simp at ht
    | cons x t =>
      obtain ⟨h1, h2, h3⟩ := he
      rcases h with ⟨_, h⟩ | ⟨_, _, _, h, _⟩
      · exact ih _ (h x h1 h2) t (by simpa using ht) h3
      · cases h
theorem isF_some {n : Nat} {acc : List Pr → Pr → Prop} : ∀ (k : Nat) (l t : List Pr), IsF n acc k l (some t) → t.length = k ∧ Ext n acc l t ∧ ∀ u, u.length = k → Ext n acc l u → t = u ∨ Lt t u := by
  intro k
  induction k with
  | zero =>
    intro l t h
    injection h with h
    subst h
    exact ⟨rfl, trivial, fun u hu _ => .inl (by simpa using hu)⟩
  | succ k ih =>
    intro l t h
    rcases h with ⟨h, _⟩ | ⟨x, s, h1, h2, h3, h4, h5⟩
    · cases h
    · injection h2 with h2
      subst h2
      obtain ⟨g1, g2, g3⟩ := ih _ _ h4
      refine ⟨by simp [g1], ⟨h1, h3, g2⟩, fun u hu he => ?_⟩
      cases u with
      | nil => simp at hu
      | cons y u =>
        obtain ⟨e1, e2, e3⟩ := he
        by_cases hp : plt y x
        · exact absurd e3 (isF_none k _ (h5 y e1 hp e2) u (by simpa using hu))
        · by_cases hq : plt x y
          · exact .inr (.inl hq)
          · have := plt_one hq hp
            subst this
            rcases g3 u (by simpa using hu) e3 with rfl | h
            · exact .inl rfl
            · exact .inr (.inr ⟨rfl, h⟩)
/-- Two ways of searching that let the same spans go on find the same. -/
theorem isF_one {n : Nat} {acc acc' : List Pr → Pr → Prop} {k : Nat} {l : List Pr} {r r' : Option (List Pr)} (h : ∀ t, t.length = k → (Ext n acc l t ↔ Ext n acc' l t)) (h1 : IsF n acc k l r) (h2 : IsF n acc' k l r') : r = r' := by
  cases r with
  | none =>
    cases r' with
    | none => rfl
    | some t =>
      obtain ⟨g1, g2, _⟩ := isF_some _ _ _ h2
      exact absurd ((h t g1).2 g2) (isF_none _ _ h1 t g1)
  | some s =>
    obtain ⟨f1, f2, f3⟩ := isF_some _ _ _ h1
    cases r' with
    | none => exact absurd ((h s f1).1 f2) (isF_none _ _ h2 s f1)
    | some t =>
      obtain ⟨g1, g2, g3⟩ := isF_some _ _ _ h2
      rcases f3 t g1 ((h t g1).2 g2) with rfl | e1
      · rfl
      · rcases g3 s f1 ((h s f1).1 f2) with rfl | e2
        · rfl
        · exact absurd (Lt_not _ _ e1 e2) id
def pD : Pr := (0, 1)
/-- How two spans of a list lie. -/
def wayP (x y : Pr) : Nat := Sp.way x.1 x.2 y.1 y.2
theorem wayP_lt (x y : Pr) : wayP x y < 13 := Sp.way_lt _ _ _ _
theorem ext_iff {n : Nat} {acc : List Pr → Pr → Prop} : ∀ (t l : List Pr), Ext n acc l t ↔ ∀ i, i < t.length → Cand n (t.getD i pD) ∧ acc (l ++ t.take i) (t.getD i pD) := by
  intro t
  induction t with
  | nil => intro l; exact ⟨fun _ i hi => absurd hi (Nat.not_lt_zero i), fun _ => trivial⟩
  | cons x t ih =>
    intro l
    constructor
    · rintro ⟨h1, h2, h3⟩ i hi
      cases i with
      | zero => exact ⟨h1, by simpa using h2⟩
      | succ i =>
        have := (ih (l ++ [x])).1 h3 i (by simpa using hi)
        simpa using this
    · intro h
      refine ⟨(h 0 (by simp)).1, by simpa using (h 0 (by simp)).2, (ih (l ++ [x])).2 fun i hi => ?_⟩
      have := h (i + 1) (by simpa using hi)
      simpa using this
section
variable {n : Nat} {N T : Nat → Nat → Nat}
/-- The program's test, the document's test. -/
def accP (T : Nat → Nat → Nat) (l : List Pr) (x : Pr) : Prop := ∀ k, k < l.length → (T l.length k).testBit (wayP x (l.getD k pD)) = true
def accD (N : Nat → Nat → Nat) (l : List Pr) (x : Pr) : Prop := (∀ k, k < l.length → (N l.length k).testBit (wayP x (l.getD k pD)) = true ∧ (N k l.length).testBit (wayP (l.getD k pD) x) = true) ∧ (N l.length l.length).testBit 6 = true
theorem wayP_back {x y : Pr} (hx : x.1 < x.2) (hy : y.1 < y.2) : wayP y x = 12 - wayP x y := Sp.way_back _ _ _ _ (by omega) (by omega)
theorem wayP_self {x : Pr} (hx : x.1 < x.2) : wayP x x = 6 := by
  unfold wayP
  exact Sp.way_6 (by omega) (by omega) ⟨rfl, rfl⟩
theorem getD_take {t : List Pr} {i k : Nat} (h : k < i) (_hi : i ≤ t.length) : (t.take i).getD k pD = t.getD k pD := by
  simp [List.getD, h]
/-- All spans of a list lie as the net says. -/
def AllN (n : Nat) (N : Nat → Nat → Nat) (t : List Pr) : Prop := ∀ i k, i < n → k < n → (N i k).testBit (wayP (t.getD i pD) (t.getD k pD)) = true
theorem extD_iff {t : List Pr} (ht : t.length = n) : Ext n (accD N) [] t ↔ (∀ i, i < n → Cand n (t.getD i pD)) ∧ AllN n N t := by
  rw [ext_iff]
  constructor
  · intro h
    refine ⟨fun i hi => (h i (by omega)).1, fun i k hi hk => ?_⟩
    rcases Nat.lt_trichotomy i k with hik | hik | hik
    · obtain ⟨_, h2, _⟩ := h k (by omega)
      simp only [List.nil_append, List.length_take, Nat.min_eq_left (show k ≤ t.length by omega)] at h2
      have := (h2 i hik).2
      rwa [getD_take hik (by omega)] at this
    · subst hik
      obtain ⟨h1, _, h3⟩ := h i (by omega)
      simp only [List.nil_append, List.length_take, Nat.min_eq_left (show i ≤ t.length by omega)] at h3
      rw [wayP_self h1.1]; exact h3
    · obtain ⟨_, h2, _⟩ := h i (by omega)
      simp only [List.nil_append, List.length_take, Nat.min_eq_left (show i ≤ t.length by omega)] at h2
      have := (h2 k hik).1
      rwa [getD_take hik (by omega)] at this
  · rintro ⟨h1, h2⟩ i hi
    refine ⟨h1 i (by omega), ?_⟩
    simp only [List.nil_append]
    unfold accD
    simp only [List.length_take, Nat.min_eq_left (show i ≤ t.length by omega)]
    refine ⟨fun k hk => ?_, ?_⟩
    · rw [getD_take hk (by omega)]
      exact ⟨h2 i k (by omega) (by omega), h2 k i (by omega) (by omega)⟩
    · have := h2 i i (by omega) (by omega)
      rwa [wayP_self (h1 i (by omega)).1] at this
/-- The ways in which spans lie are a net that bars nothing. -/
theorem ways_good {t : List Pr} (hc : ∀ i, i < n → Cand n (t.getD i pD)) (h : AllN n N t) : GoodP n N (fun i k => 2 ^ wayP (t.getD i pD) (t.getD k pD)) := by
  have hbit : ∀ a v, (2 ^ a).testBit v = true → a = v := fun a v e => by rw [Nat.testBit_two_pow] at e; simpa using e
  refine ⟨fun i j _ _ => Nat.pow_lt_pow_right (by decide) (show _ < 13 from wayP_lt _ _), fun i j hi hj => ⟨fun v _ e => ?_, fun v hv e => ?_, fun eij v _ e => ?_⟩, fun i j k hi hj hk v hv e => ?_⟩
  · rw [← hbit _ _ e]; exact h i j hi hj
  · rw [back_has _ _ hv, ← hbit _ _ e, ← wayP_back (hc i hi).1 (hc j hj).1]
    exact h j i hj hi
  · subst eij
    rw [← hbit _ _ e, wayP_self (hc i hi).1]; decide
  · rw [join_has _ _ _ hv]
    have hs := Sp.sound (t.getD i pD).1 (t.getD i pD).2 (t.getD k pD).1 (t.getD k pD).2 (t.getD j pD).1 (t.getD j pD).2 (by have := (hc i hi).1; omega) (by have := (hc k hk).1; omega) (by have := (hc j hj).1; omega)
    refine ⟨_, _, wayP_lt (t.getD i pD) (t.getD k pD), wayP_lt (t.getD k pD) (t.getD j pD), by rw [Nat.testBit_two_pow]; simp, by rw [Nat.testBit_two_pow]; simp, ?_⟩
    rw [← hbit _ _ e]
    exact hs
theorem extP_iff {t : List Pr} (hN : SmallX n N) (hT : TopP n N T) (hz : ∀ i k, i < n → k < n → T i k ≠ 0) (ht : t.length = n) : Ext n (accP T) [] t ↔ (∀ i, i < n → Cand n (t.getD i pD)) ∧ AllN n N t := by
  rw [ext_iff]
  constructor
  · intro h
    have hc : ∀ i, i < n → Cand n (t.getD i pD) := fun i hi => (h i (by omega)).1
    have hlow : ∀ i k, i < n → k < i → (T i k).testBit (wayP (t.getD i pD) (t.getD k pD)) = true := fun i k hi hk => by
      have h2 := (h i (by omega)).2
      unfold accP at h2
      simp only [List.nil_append, List.length_take, Nat.min_eq_left (show i ≤ t.length by omega)] at h2
      have := h2 k hk
      rwa [getD_take hk (by omega)] at this
    refine ⟨hc, fun i k hi hk => ?_⟩
    rcases Nat.lt_trichotomy i k with hik | hik | hik
    · have h1 := hlow k i hk hik
      have h2 := hT.back hN k i hk hi _ (wayP_lt _ _) h1
      rw [back_has _ _ (wayP_lt _ _), ← wayP_back (hc k hk).1 (hc i hi).1] at h2
      exact (hT.1.2.1 i k hi hk).1 _ (wayP_lt _ _) h2
    · subst hik
      rw [wayP_self (hc i hi).1]
      have h64 := (hT.1.2.1 i i hi hi).2.2 rfl
      have h6 : (T i i).testBit 6 = true := by
        rcases Bool.eq_false_or_eq_true ((T i i).testBit 6) with e | e
        · exact e
        · exfalso
          refine hz i i hi hi (set_ext _ _ (hT.1.1 i i hi hi) (by decide) fun v hv => ⟨fun e2 => ?_, fun e2 => by simp at e2⟩)
          have := h64 v hv e2
          have hv6 : ∀ v, v < 13 → Nat.testBit 64 v = true → v = 6 := by decide
          have := hv6 v hv this
          subst this
          rw [e] at e2; cases e2
      exact (hT.1.2.1 i i hi hi).1 6 (by decide) h6
    · exact (hT.1.2.1 i k hi hk).1 _ (wayP_lt _ _) (hlow i k hi hik)
  · rintro ⟨h1, h2⟩ i hi
    refine ⟨h1 i (by omega), ?_⟩
    simp only [List.nil_append]
    unfold accP
    simp only [List.length_take, Nat.min_eq_left (show i ≤ t.length by omega)]
    intro k hk
    rw [getD_take hk (by omega)]
    refine hT.2 _ (ways_good h1 h2) i k (by omega) (by omega) _ (wayP_lt _ _) ?_
    rw [Nat.testBit_two_pow]; simp
/-- The program's search and the document's find the same. -/
theorem solve_one (hN : SmallX n N) (hT : TopP n N T) (hz : ∀ i k, i < n → k < n → T i k ≠ 0) {r r' : Option (List Pr)} (h1 : IsF n (accP T) n [] r) (h2 : IsF n (accD N) n [] r') : r = r' :=
  isF_one (fun _ ht => (extP_iff hN hT hz ht).trans (extD_iff ht).symm) h1 h2
end
end Go.Proofs.YtpmppgmnnnlonaaDoor
