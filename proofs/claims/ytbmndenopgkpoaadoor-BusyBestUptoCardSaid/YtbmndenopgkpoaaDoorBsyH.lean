/- The document's sets of times: plain. -/
import Derived.Test.YtbmndenopgkpoaaDoorBsyA
import Derived.Test.YtbmndenopgkpoaaDoorMomB
namespace Go.Proofs.YtbmndenopgkpoaaDoor
/-- The document's add: behind the spans that end ahead of it. -/
def addE : List Iv → Iv → List Iv
  | [], s => [s]
  | p :: l, s => if p.1 ≤ s.2 then addE l (min s.1 p.1, max s.2 p.2) else s :: p :: l
def addD : List Iv → Iv → List Iv
  | [], s => [s]
  | p :: l, s => if p.2 < s.1 then p :: addD l s else addE (p :: l) s
theorem addE_ok : ∀ (l : List Iv) (s : Iv), Norm l → Okv s → (∀ p, p ∈ l → s.1 ≤ p.2) → Norm (addE l s) ∧ (∀ x, InL (addE l s) x ↔ InL l x ∨ (s.1 ≤ x ∧ x < s.2)) ∧ (addE l s).length ≤ l.length + 1 ∧ ∀ b, b < s.1 → (∀ p, p ∈ l → b < p.1) → ∀ q, q ∈ addE l s → b < q.1
  | [], s, _, hs, _ => by
    refine ⟨⟨fun p hp => by rw [List.mem_singleton.1 hp]; exact hs, List.pairwise_singleton ..⟩, fun x => ?_, by simp [addE], fun b h1 _ q hq => by rw [List.mem_singleton.1 hq]; exact h1⟩
    show InL [s] x ↔ _
    rw [inL_one]
    exact ⟨.inr, fun h => h.elim (fun h => absurd h (InL.nil _)) id⟩
  | p :: l, s, hn, hs, ht => by
    obtain ⟨hp, hl, hpl⟩ := hn.head
    have hsp := ht p (List.mem_cons_self ..)
    obtain ⟨a1, a2, a3⟩ := hp
    obtain ⟨b1, b2, b3⟩ := hs
    unfold addE
    by_cases h : p.1 ≤ s.2
    · rw [if_pos h]
      have hok : Okv (min s.1 p.1, max s.2 p.2) := ⟨by show loM ≤ min s.1 p.1; omega, by show min s.1 p.1 < max s.2 p.2; omega, by show max s.2 p.2 ≤ hiM; omega⟩
      obtain ⟨g1, g2, g3, g4⟩ := addE_ok l (min s.1 p.1, max s.2 p.2) hl hok (fun q hq => by show min s.1 p.1 ≤ q.2; have := ht q (List.mem_cons_of_mem _ hq); omega)
      refine ⟨g1, fun x => ?_, by simp only [List.length_cons]; omega, fun b h1 h2 q hq => g4 b (by show b < min s.1 p.1; have := h2 p (List.mem_cons_self ..); omega) (fun r hr => h2 r (List.mem_cons_of_mem _ hr)) q hq⟩
      rw [g2, inL_cons]
      show InL l x ∨ (min s.1 p.1 ≤ x ∧ x < max s.2 p.2) ↔ _
      constructor
      · rintro (g | ⟨g, g'⟩)
        · exact .inl (.inr g)
        · by_cases h3 : s.1 ≤ x ∧ x < s.2
          · exact .inr h3
          · exact .inl (.inl (by omega))
      · rintro ((g | g) | g)
        · exact .inr (by omega)
        · exact .inl g
        · exact .inr (by omega)
    · rw [if_neg h]
      refine ⟨⟨fun q hq => ?_, List.pairwise_cons.2 ⟨fun q hq => ?_, hn.2⟩⟩, fun x => ?_, by simp, fun b h1 h2 q hq => ?_⟩
      · rcases List.mem_cons.1 hq with rfl | hq
        · exact ⟨b1, b2, b3⟩
        · exact hn.1 q hq
      · rcases List.mem_cons.1 hq with rfl | hq
        · omega
        · have := hpl q hq; omega
      · rw [inL_cons]
        exact Or.comm
      · rcases List.mem_cons.1 hq with rfl | hq
        · exact h1
        · exact h2 q hq
theorem addD_ok : ∀ (l : List Iv) (s : Iv), Norm l → Okv s → Norm (addD l s) ∧ (∀ x, InL (addD l s) x ↔ InL l x ∨ (s.1 ≤ x ∧ x < s.2)) ∧ (addD l s).length ≤ l.length + 1 ∧ ∀ b, b < s.1 → (∀ p, p ∈ l → b < p.1) → ∀ q, q ∈ addD l s → b < q.1
  | [], s, hn, hs => addE_ok [] s hn hs (fun p hp => by cases hp)
  | p :: l, s, hn, hs => by
    obtain ⟨hp, hl, hpl⟩ := hn.head
    unfold addD
    by_cases h : p.2 < s.1
    · rw [if_pos h]
      obtain ⟨g1, g2, g3, g4⟩ := addD_ok l s hl hs
      refine ⟨⟨fun q hq => ?_, List.pairwise_cons.2 ⟨fun q hq => g4 p.2 h hpl q hq, g1.2⟩⟩, fun x => ?_, by simp only [List.length_cons]; omega, fun b h1 h2 q hq => ?_⟩
      · rcases List.mem_cons.1 hq with rfl | hq
        · exact hp
        · exact g1.1 q hq
      · rw [inL_cons, g2, inL_cons]
        exact or_assoc.symm
      · rcases List.mem_cons.1 hq with rfl | hq
        · exact h2 q (List.mem_cons_self ..)
        · exact g4 b h1 (fun r hr => h2 r (List.mem_cons_of_mem _ hr)) q hq
    · rw [if_neg h]
      refine addE_ok (p :: l) s hn hs fun q hq => ?_
      rcases List.mem_cons.1 hq with rfl | hq
      · omega
      · have h1 := hpl q hq
        have h2 := (hl.1 q hq).2.1
        obtain ⟨_, h3, _⟩ := hp
        omega
/-- Span by span. -/
def foldD (acc : List Iv) (l : List Iv) : List Iv := l.foldl addD acc
theorem foldD_ok : ∀ (l acc : List Iv), Norm acc → (∀ p, p ∈ l → Okv p) → Norm (foldD acc l) ∧ (∀ x, InL (foldD acc l) x ↔ InL acc x ∨ InL l x) ∧ (foldD acc l).length ≤ acc.length + l.length
  | [], acc, h, _ => ⟨h, fun x => ⟨.inl, fun h => h.elim id fun h => absurd h (InL.nil _)⟩, by simp [foldD]⟩
  | p :: l, acc, h, hl => by
    obtain ⟨g1, g2, g3, _⟩ := addD_ok acc p h (hl p (List.mem_cons_self ..))
    obtain ⟨k1, k2, k3⟩ := foldD_ok l (addD acc p) g1 (fun q hq => hl q (List.mem_cons_of_mem _ hq))
    refine ⟨k1, fun x => ?_, by have : foldD acc (p :: l) = foldD (addD acc p) l := rfl; rw [this, List.length_cons]; omega⟩
    have : foldD acc (p :: l) = foldD (addD acc p) l := rfl
    rw [this, k2, g2, inL_cons]
    exact or_assoc
theorem foldD_of (l : List Iv) : OfM l (foldD [] (clipL l)) := by
  obtain ⟨g1, g2, g3⟩ := foldD_ok (clipL l) [] Norm.nil (clipL_ok l)
  refine ⟨g1, fun x => ?_, Nat.le_trans g3 (by simpa using clipL_len l)⟩
  rw [g2, clipL_in]
  exact ⟨fun h => h.elim (fun h => absurd h (InL.nil _)) id, .inr⟩
theorem foldD_or {a b : List Iv} (ha : Norm a) (hb : Norm b) : OrM a b (foldD a b) := by
  obtain ⟨g1, g2, g3⟩ := foldD_ok b a ha hb.1
  exact ⟨g1, g2, g3⟩
theorem foldD_take {acc l : List Iv} {k : Nat} (hk : k < l.length) : foldD acc (l.take (k + 1)) = addD (foldD acc (l.take k)) (l.getD k iv0) := by
  unfold foldD
  rw [List.take_add_one, List.foldl_append, List.getD_eq_getElem?_getD, List.getElem?_eq_getElem hk]
  rfl
/-- So many spans stand ahead; then the rest. -/
theorem addD_pass {l : List Iv} {s : Iv} {i : Nat} (hi : i ≤ l.length) (h : ∀ k, k < i → (l.getD k iv0).2 < s.1) : addD l s = l.take i ++ addD (l.drop i) s := by
  induction l generalizing i with
  | nil =>
    have : i = 0 := by simpa using hi
    subst this
    rfl
  | cons p l ih =>
    cases i with
    | zero => rfl
    | succ i =>
      have h0 : p.2 < s.1 := by simpa using h 0 (by omega)
      have e : addD (p :: l) s = p :: addD l s := by
        show (if p.2 < s.1 then p :: addD l s else addE (p :: l) s) = _
        exact if_pos h0
      rw [e, List.take_succ_cons, List.drop_succ_cons, List.cons_append]
      congr 1
      exact ih (by simpa using hi) (fun k hk => by have := h (k + 1) (by omega); simpa using this)
theorem addD_turn {l : List Iv} {s : Iv} {i : Nat} (h : i < l.length → ¬ (l.getD i iv0).2 < s.1) : addD (l.drop i) s = addE (l.drop i) s := by
  by_cases hi : i < l.length
  · rw [List.drop_eq_getElem_cons hi]
    have h1 := h hi
    rw [List.getD_eq_getElem?_getD, List.getElem?_eq_getElem hi] at h1
    unfold addD
    exact if_neg h1
  · rw [List.drop_of_length_le (by omega)]
    rfl
theorem addE_go {l : List Iv} {s : Iv} {i : Nat} (hi : i < l.length) (h : (l.getD i iv0).1 ≤ s.2) : addE (l.drop i) s = addE (l.drop (i + 1)) (min s.1 (l.getD i iv0).1, max s.2 (l.getD i iv0).2) := by
  rw [List.drop_eq_getElem_cons hi]
  rw [List.getD_eq_getElem?_getD, List.getElem?_eq_getElem hi] at h ⊢
  show (if _ then _ else _) = _
  exact if_pos h
theorem addE_stop {l : List Iv} {s : Iv} {i : Nat} (h : i < l.length → ¬ (l.getD i iv0).1 ≤ s.2) : addE (l.drop i) s = s :: l.drop i := by
  by_cases hi : i < l.length
  · have h1 := h hi
    rw [List.drop_eq_getElem_cons hi]
    rw [List.getD_eq_getElem?_getD, List.getElem?_eq_getElem hi] at h1
    show (if _ then _ else _) = _
    exact if_neg h1
  · rw [List.drop_of_length_le (by omega)]
    rfl
/-- Nothing of a time, by sets. -/
theorem canB_empty {L o : List Iv} {a b : Int} (hL : Norm L) (ho : Norm o) (hab : a < b) (h : ∀ x, InL o x ↔ InL L x ∧ a ≤ x ∧ x < b) : canB L a b = decide (o.length = 0) := by
  rw [Bool.eq_iff_iff, canB_iff, decide_eq_true_iff]
  constructor
  · intro hc
    cases o with
    | nil => rfl
    | cons p o =>
      obtain ⟨hp, _, _⟩ := ho.head
      obtain ⟨⟨q, hq, h1, h2⟩, h3, h4⟩ := (h p.1).1 (inL_cons.2 (.inl ⟨Int.le_refl _, hp.2.1⟩))
      exact absurd ⟨by omega, by omega⟩ (hc q hq)
  · intro hz p hp hc
    have : o = [] := List.eq_nil_of_length_eq_zero hz
    subst this
    have hok := hL.1 p hp
    exact InL.nil _ ((h (max p.1 a)).2 ⟨⟨p, hp, by omega, by have := hok.2.1; omega⟩, by omega, by omega⟩)
theorem and_can {L o n1 n2 q o2 : List Iv} {a b : Int} (hL : Norm L) (h1 : OfM [(a, b)] o) (h2 : NotM L n1) (h3 : NotM o n2) (h4 : OrM n1 n2 q) (h5 : NotM q o2) (hab : a < b) : canB L a b = decide (o2.length = 0) := by
  refine canB_empty hL h5.1 hab fun x => ?_
  rw [h5.2.1, h4.2.1, h2.2.1, h3.2.1, h1.inl, inL_one]
  constructor
  · rintro ⟨g1, g2, g3⟩
    by_cases g4 : InL L x
    · refine ⟨g4, ?_⟩
      by_cases g5 : a ≤ x ∧ x < b
      · exact g5
      · exact absurd (.inr ⟨g1, g2, fun g => g5 g.2.2⟩) g3
    · exact absurd (.inl ⟨g1, g2, g4⟩) g3
  · rintro ⟨g1, g2, g3⟩
    have g4 := hL.range g1
    refine ⟨g4.1, g4.2, ?_⟩
    rintro (g | g)
    · exact g.2.2 g1
    · exact g.2.2 ⟨g4.1, g4.2, g2, g3⟩
end Go.Proofs.YtbmndenopgkpoaaDoor
