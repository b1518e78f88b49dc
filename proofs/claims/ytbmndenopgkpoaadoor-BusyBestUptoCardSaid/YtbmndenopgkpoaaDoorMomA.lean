/- Sets of times in plain Lean: spans that rise, apart from each other. -/
import Derived.RowKit
namespace Go.Proofs.YtbmndenopgkpoaaDoor
abbrev Iv := Int × Int
def loM : Int := -1152921504606846976
def hiM : Int := 1152921504606846976
def InL (l : List Iv) (x : Int) : Prop := ∃ p, p ∈ l ∧ p.1 ≤ x ∧ x < p.2
def Okv (p : Iv) : Prop := loM ≤ p.1 ∧ p.1 < p.2 ∧ p.2 ≤ hiM
/-- A set's spans: they rise, none is empty, none meets the next. -/
def Norm (l : List Iv) : Prop := (∀ p, p ∈ l → Okv p) ∧ l.Pairwise fun p q => p.2 < q.1
theorem InL.nil (x : Int) : ¬ InL [] x := fun ⟨_, h, _⟩ => by cases h
theorem inL_append {l m : List Iv} {x : Int} : InL (l ++ m) x ↔ InL l x ∨ InL m x := by
  unfold InL
  constructor
  · rintro ⟨p, hp, h⟩
    rcases List.mem_append.1 hp with h1 | h1
    · exact .inl ⟨p, h1, h⟩
    · exact .inr ⟨p, h1, h⟩
  · rintro (⟨p, hp, h⟩ | ⟨p, hp, h⟩)
    · exact ⟨p, List.mem_append.2 (.inl hp), h⟩
    · exact ⟨p, List.mem_append.2 (.inr hp), h⟩
theorem inL_one {p : Iv} {x : Int} : InL [p] x ↔ p.1 ≤ x ∧ x < p.2 :=
  ⟨fun ⟨q, hq, h⟩ => by rw [← List.mem_singleton.1 hq]; exact h, fun h => ⟨p, List.mem_singleton.2 rfl, h⟩⟩
theorem inL_cons {p : Iv} {l : List Iv} {x : Int} : InL (p :: l) x ↔ (p.1 ≤ x ∧ x < p.2) ∨ InL l x := by
  rw [show p :: l = [p] ++ l from rfl, inL_append, inL_one]
theorem Norm.nil : Norm [] := ⟨fun _ h => (by cases h), List.Pairwise.nil⟩
theorem Norm.head {p : Iv} {l : List Iv} (h : Norm (p :: l)) : Okv p ∧ Norm l ∧ ∀ q, q ∈ l → p.2 < q.1 :=
  ⟨h.1 p (List.mem_cons_self ..), ⟨fun q hq => h.1 q (List.mem_cons_of_mem _ hq), (List.pairwise_cons.1 h.2).2⟩, (List.pairwise_cons.1 h.2).1⟩
theorem Norm.init {l m : List Iv} (h : Norm (l ++ m)) : Norm l := ⟨fun p hp => h.1 p (List.mem_append.2 (.inl hp)), (List.pairwise_append.1 h.2).1⟩
/-- Sets of the same times have the same spans. -/
theorem Norm.one : ∀ {l m : List Iv}, Norm l → Norm m → (∀ x, InL l x ↔ InL m x) → l = m := by
  intro l
  induction l with
  | nil =>
    intro m _ hm h
    cases m with
    | nil => rfl
    | cons q m =>
      have := (hm.head).1
      exact absurd ((h q.1).2 (inL_cons.2 (.inl ⟨Int.le_refl _, this.2.1⟩))) (InL.nil _)
  | cons p l ih =>
    intro m hl hm h
    cases m with
    | nil =>
      have := (hl.head).1
      exact absurd ((h p.1).1 (inL_cons.2 (.inl ⟨Int.le_refl _, this.2.1⟩))) (InL.nil _)
    | cons q m =>
      obtain ⟨⟨_, p2, _⟩, pn, pl⟩ := hl.head
      obtain ⟨⟨_, q2, _⟩, qn, ql⟩ := hm.head
      have e1 : p.1 = q.1 := by
        have h1 := (h p.1).1 (inL_cons.2 (.inl ⟨Int.le_refl _, p2⟩))
        have h2 := (h q.1).2 (inL_cons.2 (.inl ⟨Int.le_refl _, q2⟩))
        rcases inL_cons.1 h1 with g | ⟨r, g1, g2, _⟩
        · rcases inL_cons.1 h2 with k | ⟨r, k1, k2, _⟩
          · omega
          · have := pl r k1; omega
        · have := ql r g1
          rcases inL_cons.1 h2 with k | ⟨r, k1, k2, _⟩
          · omega
          · have := pl r k1; omega
      have out1 : ∀ x, p.2 ≤ x → (∀ r, r ∈ l → x < r.1) → ¬ InL (p :: l) x := fun x h1 h2 h3 => by
        rcases inL_cons.1 h3 with g | ⟨r, g1, g2, _⟩
        · omega
        · have := h2 r g1; omega
      have out2 : ∀ x, q.2 ≤ x → (∀ r, r ∈ m → x < r.1) → ¬ InL (q :: m) x := fun x h1 h2 h3 => by
        rcases inL_cons.1 h3 with g | ⟨r, g1, g2, _⟩
        · omega
        · have := h2 r g1; omega
      have e2 : p.2 = q.2 := by
        rcases Int.lt_trichotomy p.2 q.2 with g | g | g
        · exact absurd ((h p.2).2 (inL_cons.2 (.inl ⟨by omega, g⟩))) (out1 p.2 (Int.le_refl _) pl)
        · exact g
        · exact absurd ((h q.2).1 (inL_cons.2 (.inl ⟨by omega, g⟩))) (out2 q.2 (Int.le_refl _) ql)
      have e : p = q := Prod.ext e1 e2
      subst e
      rw [ih pn qn fun x => ?_]
      have hx := h x
      constructor
      · intro hm2
        obtain ⟨r, r1, r2, r3⟩ := hm2
        have h3 := pl r r1
        rcases inL_cons.1 (hx.1 (inL_cons.2 (.inr ⟨r, r1, r2, r3⟩))) with g | g
        · omega
        · exact g
      · intro hm2
        obtain ⟨r, r1, r2, r3⟩ := hm2
        have h3 := ql r r1
        rcases inL_cons.1 (hx.2 (inL_cons.2 (.inr ⟨r, r1, r2, r3⟩))) with g | g
        · omega
        · exact g
def clipM (n : Int) : Int := min (max n loM) hiM
theorem clipM_in {n : Int} : loM ≤ clipM n ∧ clipM n ≤ hiM := by unfold clipM loM hiM; omega
theorem clipM_le {a x : Int} (h1 : loM ≤ x) (h2 : x < hiM) : (clipM a ≤ x ↔ a ≤ x) ∧ (x < clipM a ↔ x < a) := by unfold clipM; unfold loM at *; unfold hiM at *; omega
/-- The spans that are left, clipped. -/
def clipL : List Iv → List Iv
  | [] => []
  | p :: l => if clipM p.1 < clipM p.2 then (clipM p.1, clipM p.2) :: clipL l else clipL l
theorem clipL_append : ∀ (l m : List Iv), clipL (l ++ m) = clipL l ++ clipL m := by
  intro l
  induction l with
  | nil => intro m; rfl
  | cons p l ih => intro m; simp only [List.cons_append, clipL]; rw [ih]; split <;> simp
theorem clipL_ok : ∀ (l : List Iv) p, p ∈ clipL l → Okv p := by
  intro l
  induction l with
  | nil => intro p h; cases h
  | cons q l ih =>
    intro p h
    unfold clipL at h
    split at h
    · rename_i hq
      rcases List.mem_cons.1 h with rfl | h
      · exact ⟨clipM_in.1, hq, clipM_in.2⟩
      · exact ih p h
    · exact ih p h
theorem clipL_len : ∀ (l : List Iv), (clipL l).length ≤ l.length := by
  intro l
  induction l with
  | nil => exact Nat.le_refl _
  | cons q l ih => unfold clipL; split <;> simp only [List.length_cons] <;> omega
theorem clipL_in : ∀ (l : List Iv) x, InL (clipL l) x ↔ loM ≤ x ∧ x < hiM ∧ InL l x := by
  intro l
  induction l with
  | nil => intro x; exact ⟨fun h => absurd h (InL.nil _), fun h => absurd h.2.2 (InL.nil _)⟩
  | cons q l ih =>
    intro x
    unfold clipL
    rw [inL_cons]
    by_cases h : clipM q.1 < clipM q.2
    · rw [if_pos h, inL_cons, ih]
      have c1 := clipM_in (n := q.1)
      have c2 := clipM_in (n := q.2)
      constructor
      · rintro (⟨g1, g2⟩ | ⟨g1, g2, g3⟩)
        · have a1 : loM ≤ x := by omega
          have a2 : x < hiM := by omega
          exact ⟨a1, a2, .inl ⟨(clipM_le a1 a2).1.1 g1, (clipM_le a1 a2).2.1 g2⟩⟩
        · exact ⟨g1, g2, .inr g3⟩
      · rintro ⟨a1, a2, g | g⟩
        · exact .inl ⟨(clipM_le a1 a2).1.2 g.1, (clipM_le a1 a2).2.2 g.2⟩
        · exact .inr ⟨a1, a2, g⟩
    · rw [if_neg h, ih]
      constructor
      · rintro ⟨a1, a2, g⟩; exact ⟨a1, a2, .inr g⟩
      · rintro ⟨a1, a2, g | g⟩
        · have e1 := (clipM_le a1 a2 (a := q.1)).1.2 g.1
          have e2 := (clipM_le a1 a2 (a := q.2)).2.2 g.2
          omega
        · exact ⟨a1, a2, g⟩
/-- One span more, that begins no sooner than the last. -/
def addM (out : List Iv) (s : Iv) : List Iv :=
  match out.getLast? with
  | none => [s]
  | some q => if s.1 ≤ q.2 then out.dropLast ++ [(q.1, max q.2 s.2)] else out ++ [s]
theorem addM_nil (s : Iv) : addM [] s = [s] := rfl
theorem addM_snoc (o : List Iv) (q s : Iv) : addM (o ++ [q]) s = if s.1 ≤ q.2 then o ++ [(q.1, max q.2 s.2)] else o ++ [q] ++ [s] := by
  unfold addM
  rw [List.getLast?_append, List.dropLast_concat]
  rfl
/-- Sorted spans, so many of them joined. -/
structure MrgI (S : List Iv) (k : Nat) (out : List Iv) : Prop where
  norm : Norm out
  inl : ∀ x, InL out x ↔ InL (S.take k) x
  len : out.length ≤ k
  last : ∀ o q, out = o ++ [q] → ∀ s, s ∈ S.drop k → q.1 ≤ s.1
theorem MrgI.start (S : List Iv) : MrgI S 0 [] := ⟨Norm.nil, fun x => by simp, Nat.le_refl _, fun o q h => by simp at h⟩
theorem MrgI.step {S : List Iv} {k : Nat} {out : List Iv} (h : MrgI S k out) (hS : ∀ p, p ∈ S → Okv p) (hs : S.Pairwise fun p q => p.1 ≤ q.1) {s : Iv} (hk : S[k]? = some s) : MrgI S (k + 1) (addM out s) := by
  have hkl : k < S.length := (List.getElem?_eq_some_iff.1 hk).1
  have htake : S.take (k + 1) = S.take k ++ [s] := by rw [List.take_add_one, hk]; rfl
  have hdrop : S.drop k = s :: S.drop (k + 1) := by
    rw [List.drop_eq_getElem_cons hkl, (List.getElem?_eq_some_iff.1 hk).2]
  have hsok := hS s (List.mem_of_getElem? hk)
  have hlater : ∀ p, p ∈ S.drop (k + 1) → s.1 ≤ p.1 := by
    have h1 : (S.drop k).Pairwise fun p q => p.1 ≤ q.1 := hs.sublist (List.drop_sublist _ _)
    rw [hdrop] at h1
    exact (List.pairwise_cons.1 h1).1
  obtain ⟨g1, g2, g3, g4⟩ := h
  rcases List.eq_nil_or_concat out with rfl | ⟨o, q, e⟩
  · rw [addM_nil]
    refine ⟨⟨fun p hp => by rw [List.mem_singleton.1 hp]; exact hsok, List.pairwise_singleton ..⟩, fun x => ?_, by simp, fun o q e p hp => ?_⟩
    · rw [htake, inL_append, ← g2]
      exact ⟨.inr, fun h => h.elim (fun h => absurd h (InL.nil _)) id⟩
    · cases o with
      | nil => simp only [List.nil_append, List.cons.injEq, and_true] at e; rw [← e]; exact hlater p hp
      | cons a o => simp at e
  · have e' : out = o ++ [q] := by rw [e]; simp
    subst e'
    have hqs : q.1 ≤ s.1 := g4 o q rfl s (by rw [hdrop]; exact List.mem_cons_self ..)
    have hqok := g1.1 q (by simp)
    have hpw := List.pairwise_append.1 g1.2
    rw [addM_snoc]
    by_cases hm : s.1 ≤ q.2
    · rw [if_pos hm]
      have hmx : Okv (q.1, max q.2 s.2) := by
        obtain ⟨a1, a2, a3⟩ := hqok
        obtain ⟨b1, b2, b3⟩ := hsok
        refine ⟨a1, ?_, ?_⟩
        · show q.1 < max q.2 s.2; omega
        · show max q.2 s.2 ≤ hiM; omega
      refine ⟨⟨fun p hp => ?_, ?_⟩, fun x => ?_, ?_, fun o' q' e p hp => ?_⟩
      · rcases List.mem_append.1 hp with h1 | h1
        · exact g1.1 p (List.mem_append.2 (.inl h1))
        · rw [List.mem_singleton.1 h1]; exact hmx
      · refine List.pairwise_append.2 ⟨hpw.1, List.pairwise_singleton .., fun a ha b hb => ?_⟩
        rw [List.mem_singleton.1 hb]
        exact hpw.2.2 a ha q (by simp)
      · rw [htake, inL_append, inL_append, ← g2, inL_append, inL_one, inL_one, inL_one]
        have hqq := hqok.2.1
        constructor
        · rintro (h1 | h1)
          · exact .inl (.inl h1)
          · by_cases h2 : x < q.2
            · exact .inl (.inr ⟨h1.1, h2⟩)
            · refine .inr ⟨by omega, ?_⟩
              have : x < max q.2 s.2 := h1.2
              omega
        · rintro ((h1 | h1) | h1)
          · exact .inl h1
          · refine .inr ⟨h1.1, ?_⟩
            show x < max q.2 s.2; omega
          · refine .inr ⟨by show q.1 ≤ x; omega, ?_⟩
            show x < max q.2 s.2; omega
      · rw [List.length_append] at g3 ⊢; simp only [List.length_singleton] at g3 ⊢; omega
      · obtain ⟨_, e2⟩ := List.append_inj' e rfl
        simp only [List.cons.injEq, and_true] at e2
        rw [← e2]
        show q.1 ≤ p.1
        have := hlater p hp
        omega
    · rw [if_neg hm]
      refine ⟨⟨fun p hp => ?_, ?_⟩, fun x => ?_, ?_, fun o' q' e p hp => ?_⟩
      · rcases List.mem_append.1 hp with h1 | h1
        · exact g1.1 p h1
        · rw [List.mem_singleton.1 h1]; exact hsok
      · refine List.pairwise_append.2 ⟨g1.2, List.pairwise_singleton .., fun a ha b hb => ?_⟩
        rw [List.mem_singleton.1 hb]
        rcases List.mem_append.1 ha with h1 | h1
        · have := hpw.2.2 a h1 q (by simp)
          have := hqok.2.1
          show a.2 < s.1; omega
        · rw [List.mem_singleton.1 h1]; show q.2 < s.1; omega
      · rw [htake, inL_append (l := o ++ [q]), inL_append (l := S.take k), ← g2]
      · rw [List.length_append]; simp only [List.length_singleton]; omega
      · obtain ⟨_, e2⟩ := List.append_inj' e rfl
        simp only [List.cons.injEq, and_true] at e2
        rw [← e2]; exact hlater p hp
/-- What Of makes of spans. -/
structure OfM (l out : List Iv) : Prop where
  norm : Norm out
  inl : ∀ x, InL out x ↔ loM ≤ x ∧ x < hiM ∧ InL l x
  len : out.length ≤ l.length
theorem OfM.of {l S out : List Iv} (hp : ∀ p, p ∈ S ↔ p ∈ clipL l) (hlen : S.length ≤ l.length) (h : MrgI S S.length out) : OfM l out :=
  ⟨h.norm, fun x => by
    rw [h.inl, List.take_length, ← clipL_in]
    exact ⟨fun ⟨p, h1, h2⟩ => ⟨p, (hp p).1 h1, h2⟩, fun ⟨p, h1, h2⟩ => ⟨p, (hp p).2 h1, h2⟩⟩, Nat.le_trans h.len hlen⟩
theorem OfM.one {l out out' : List Iv} (h : OfM l out) (h' : OfM l out') : out = out' := h.norm.one h'.norm fun x => by rw [h.inl, h'.inl]
theorem Norm.range {l : List Iv} (h : Norm l) {x : Int} (hx : InL l x) : loM ≤ x ∧ x < hiM := by
  obtain ⟨p, h1, h2, h3⟩ := hx
  obtain ⟨g1, g2, g3⟩ := h.1 p h1
  omega
/-- All pairs, crossed. -/
def crossM (a b : List Iv) : List Iv := a.flatMap fun p => b.map fun q => (max p.1 q.1, min p.2 q.2)
theorem crossM_in {a b : List Iv} {x : Int} : InL (crossM a b) x ↔ InL a x ∧ InL b x := by
  constructor
  · rintro ⟨r, h1, h2, h3⟩
    obtain ⟨p, hp, h4⟩ := List.mem_flatMap.1 h1
    obtain ⟨q, hq, rfl⟩ := List.mem_map.1 h4
    have h5 : max p.1 q.1 ≤ x := h2
    have h6 : x < min p.2 q.2 := h3
    exact ⟨⟨p, hp, by omega, by omega⟩, ⟨q, hq, by omega, by omega⟩⟩
  · rintro ⟨⟨p, hp, h1, h2⟩, ⟨q, hq, h3, h4⟩⟩
    refine ⟨_, List.mem_flatMap.2 ⟨p, hp, List.mem_map.2 ⟨q, hq, rfl⟩⟩, ?_, ?_⟩
    · show max p.1 q.1 ≤ x; omega
    · show x < min p.2 q.2; omega
theorem crossM_len (a b : List Iv) : (crossM a b).length = a.length * b.length := by
  unfold crossM
  induction a with
  | nil => simp
  | cons p a ih => simp only [List.flatMap_cons, List.length_append, List.length_map, List.length_cons, ih]; rw [Nat.add_mul]; omega
/-- The gaps, from a time on, behind the first spans. -/
def gapsM (f : Int) : List Iv → List Iv
  | [] => [(f, hiM)]
  | p :: l => (f, p.1) :: gapsM p.2 l
theorem gapsM_in : ∀ (l : List Iv) (f x : Int), Norm l → (∀ p, p ∈ l → f ≤ p.1) → (InL (gapsM f l) x ↔ f ≤ x ∧ x < hiM ∧ ¬ InL l x) := by
  intro l
  induction l with
  | nil => intro f x _ _; unfold gapsM; rw [inL_one]; exact ⟨fun h => ⟨h.1, h.2, InL.nil _⟩, fun h => ⟨h.1, h.2.1⟩⟩
  | cons p l ih =>
    intro f x h hf
    obtain ⟨⟨a1, a2, a3⟩, hn, hl⟩ := h.head
    have hfp := hf p (List.mem_cons_self ..)
    unfold gapsM
    rw [inL_cons, ih p.2 x hn (fun q hq => by have := hl q hq; omega), inL_cons]
    constructor
    · rintro (⟨g1, g2⟩ | ⟨g1, g2, g3⟩)
      · have g2' : x < p.1 := g2
        refine ⟨g1, by omega, ?_⟩
        rintro (g4 | ⟨q, q1, q2, q3⟩)
        · omega
        · have := hl q q1; omega
      · refine ⟨by omega, g2, ?_⟩
        rintro (g4 | g4)
        · omega
        · exact g3 g4
    · rintro ⟨g1, g2, g3⟩
      by_cases h1 : x < p.1
      · exact .inl ⟨g1, h1⟩
      · by_cases h2 : x < p.2
        · exact absurd (.inl ⟨by omega, h2⟩) g3
        · exact .inr ⟨by omega, g2, fun h => g3 (.inr h)⟩
theorem gapsM_len : ∀ (l : List Iv) (f : Int), (gapsM f l).length = l.length + 1 := by
  intro l
  induction l with
  | nil => intro f; rfl
  | cons p l ih => intro f; unfold gapsM; rw [List.length_cons, ih]; rfl
/-- What the operations make. -/
def OrM (a b o : List Iv) : Prop := Norm o ∧ (∀ x, InL o x ↔ InL a x ∨ InL b x) ∧ o.length ≤ a.length + b.length
def AndM (a b o : List Iv) : Prop := Norm o ∧ (∀ x, InL o x ↔ InL a x ∧ InL b x) ∧ o.length ≤ a.length * b.length
def NotM (a o : List Iv) : Prop := Norm o ∧ (∀ x, InL o x ↔ loM ≤ x ∧ x < hiM ∧ ¬ InL a x) ∧ o.length ≤ a.length + 1
def LessM (a b o : List Iv) : Prop := Norm o ∧ (∀ x, InL o x ↔ InL a x ∧ ¬ InL b x) ∧ o.length ≤ a.length * (b.length + 1)
theorem OfM.or {a b o : List Iv} (ha : Norm a) (hb : Norm b) (h : OfM (a ++ b) o) : OrM a b o :=
  ⟨h.norm, fun x => by
    rw [h.inl, inL_append]
    exact ⟨fun g => g.2.2, fun g => ⟨(g.elim ha.range hb.range).1, (g.elim ha.range hb.range).2, g⟩⟩, by have := h.len; rw [List.length_append] at this; exact this⟩
theorem OfM.and {a b o : List Iv} (ha : Norm a) (h : OfM (crossM a b) o) : AndM a b o :=
  ⟨h.norm, fun x => by
    rw [h.inl, crossM_in]
    exact ⟨fun g => g.2.2, fun g => ⟨(ha.range g.1).1, (ha.range g.1).2, g⟩⟩, by have := h.len; rw [crossM_len] at this; exact this⟩
theorem OfM.not {a o : List Iv} (ha : Norm a) (h : OfM (gapsM loM a) o) : NotM a o :=
  ⟨h.norm, fun x => by
    rw [h.inl, gapsM_in a loM x ha fun p hp => (ha.1 p hp).1]
    exact ⟨fun g => g.2.2, fun g => ⟨g.1, g.2.1, g⟩⟩, by have := h.len; rw [gapsM_len] at this; exact this⟩
theorem AndM.less {a b c o : List Iv} (ha : Norm a) (hc : NotM b c) (h : AndM a c o) : LessM a b o :=
  ⟨h.1, fun x => by
    rw [h.2.1, hc.2.1]
    exact ⟨fun g => ⟨g.1, g.2.2.2⟩, fun g => ⟨g.1, (ha.range g.1).1, (ha.range g.1).2, g.2⟩⟩, Nat.le_trans h.2.2 (Nat.mul_le_mul_left _ hc.2.2)⟩
end Go.Proofs.YtbmndenopgkpoaaDoor
