/- Plain: which days and minutes a Cron tells. -/
import Derived.Test.YtdnbnpknmdcljaaGreatDoorCrnL
import Derived.Test.YtdnbnpknmdcljaaGreatDoorDaysMathD
namespace Go.Proofs.YtdnbnpknmdcljaaGreatDoor
open Go.RowKit
/-- The weekday nearest to the k-th of a month. -/
def nearI (k long wdn : Int) : Int := if wdn = 6 then (if 1 < k then k - 1 else k + 2) else if wdn = 7 then (if k < long then k + 1 else k - 2) else k
def nearB (c : Cron) (n d long : Int) : Bool := c.ne.any fun k => decide (k ≤ long) && decide (d = nearI k long (Dm.wd (n - d + k)))
def monthB (c : Cron) (n d long : Int) : Bool := decide (d ∈ c.da) || (c.la && decide (d = long)) || nearB c n d long
def weekB (c : Cron) (n d long : Int) : Bool := decide (Dm.wd n ∈ c.wd) || (decide (Dm.wd n ∈ c.lo) && decide (long < d + 7)) || decide (((d - 1) / 7 + 1, Dm.wd n) ∈ c.nt)
/-- Is the day one of the Cron's? n: the day's number; m, d: its month and day; long: how long the month is. -/
def dayB (c : Cron) (n m d long : Int) : Bool := decide (m ∈ c.mo) && (if c.any then c.aw || weekB c n d long else if c.aw then monthB c n d long else monthB c n d long || weekB c n d long)
/-- Day n will do (b), or not. -/
def FitP (c : Cron) (n : Int) (b : Bool) : Prop := ∃ y m d, Dm.Valid 1 y m d ∧ Dm.dayOf 1 y m d = n ∧ b = dayB c n m d (Dm.length 1 y m)
theorem FitP.one {c : Cron} {n : Int} {b b' : Bool} (h : FitP c n b) (h' : FitP c n b') : b = b' := by
  obtain ⟨y, m, d, h1, h2, rfl⟩ := h
  obtain ⟨y', m', d', h1', h2', rfl⟩ := h'
  obtain ⟨rfl, rfl, rfl⟩ := Dm.date_one _ _ _ _ _ _ _ (by decide) (by decide) h1 h1' (h2.trans h2'.symm)
  rfl
/-- Minute x of day n is one of the Cron's, and behind the time t. -/
structure Hit (c : Cron) (t n x : Int) : Prop where
  fit : FitP c n true
  lo : 0 ≤ x
  hi : x < 1440
  ho : x / 60 ∈ c.ho
  mi : x % 60 ∈ c.mi
  later : t < (n * 1440 + x) * 60
/-- The first time, in the days from a to b. -/
def NextP (c : Cron) (t a b : Int) : Option Int → Prop
  | some r => (∃ n x, a ≤ n ∧ n ≤ b ∧ Hit c t n x ∧ r = (n * 1440 + x) * 60) ∧ ∀ n x, a ≤ n → n ≤ b → Hit c t n x → r ≤ (n * 1440 + x) * 60
  | none => ∀ n x, a ≤ n → n ≤ b → ¬ Hit c t n x
theorem NextP.one {c : Cron} {t a b : Int} {r r' : Option Int} (h : NextP c t a b r) (h' : NextP c t a b r') : r = r' := by
  cases r with
  | none => cases r' with
    | none => rfl
    | some r' =>
      obtain ⟨⟨n, x, h1, h2, h3, _⟩, _⟩ := h'
      exact absurd h3 (h n x h1 h2)
  | some r => cases r' with
    | none =>
      obtain ⟨⟨n, x, h1, h2, h3, _⟩, _⟩ := h
      exact absurd h3 (h' n x h1 h2)
    | some r' =>
      obtain ⟨⟨n, x, h1, h2, h3, h4⟩, h5⟩ := h
      obtain ⟨⟨n', x', h1', h2', h3', h4'⟩, h5'⟩ := h'
      have e1 := h5 n' x' h1' h2' h3'
      have e2 := h5' n x h1 h2 h3
      have : r = r' := by omega
      rw [this]
/-- Behind the days before n there is no time yet. -/
def NoneYet (c : Cron) (t a n : Int) : Prop := ∀ n' x, a ≤ n' → n' < n → ¬ Hit c t n' x
theorem NoneYet.skip {c : Cron} {t a n : Int} (h : NoneYet c t a n) (hf : FitP c n false) : NoneYet c t a (n + 1) := fun n' x h1 h2 hh => by
  by_cases e : n' < n
  · exact h n' x h1 e hh
  · obtain rfl : n' = n := by omega
    have := hf.one hh.fit
    cases this
/-- A place in a list that rises. -/
theorem ris_lt {l : List Int} {a b : Int} (h : risB l a b = true) {i j : Nat} (hij : i < j) (hj : j < l.length) : l.getD i 0 < l.getD j 0 := by
  induction j with
  | zero => omega
  | succ j ih =>
    have h1 := (ris_at h (j + 1) hj).2.2 (by omega)
    rw [Nat.add_sub_cancel] at h1
    by_cases e : i = j
    · subst e; exact h1
    · exact Int.lt_trans (ih (by omega) (by omega)) h1
theorem mem_at {l : List Int} {x : Int} (h : x ∈ l) : ∃ i, i < l.length ∧ l.getD i 0 = x := by
  obtain ⟨i, hi, rfl⟩ := List.mem_iff_getElem.1 h
  exact ⟨i, hi, by rw [List.getD, List.getElem?_eq_getElem hi]; rfl⟩
theorem at_mem {l : List Int} {i : Nat} (h : i < l.length) : l.getD i 0 ∈ l := by
  rw [List.getD, List.getElem?_eq_getElem h]
  exact List.getElem_mem h
/-- On day n, none of the minutes of the hours before place i (and of the minutes before place j of hour i) will do. -/
def NoneBefore (c : Cron) (t n : Int) (i j : Nat) : Prop := ∀ i' j', i' < c.ho.length → j' < c.mi.length → (i' < i ∨ (i' = i ∧ j' < j)) → ¬ t < (n * 1440 + (c.ho.getD i' 0 * 60 + c.mi.getD j' 0)) * 60
theorem NoneBefore.step {c : Cron} {t n : Int} {i j : Nat} (h : NoneBefore c t n i j) (hn : ¬ t < (n * 1440 + (c.ho.getD i 0 * 60 + c.mi.getD j 0)) * 60) : NoneBefore c t n i (j + 1) := fun i' j' h1 h2 h3 => by
  rcases h3 with h3 | ⟨rfl, h3⟩
  · exact h i' j' h1 h2 (.inl h3)
  · by_cases e : j' = j
    · subst e; exact hn
    · exact h i' j' h1 h2 (.inr ⟨rfl, by omega⟩)
theorem NoneBefore.next {c : Cron} {t n : Int} {i : Nat} (h : NoneBefore c t n i c.mi.length) : NoneBefore c t n (i + 1) 0 := fun i' j' h1 h2 h3 => by
  rcases h3 with h3 | ⟨_, h3⟩
  · by_cases e : i' = i
    · subst e; exact h i' j' h1 h2 (.inr ⟨rfl, h2⟩)
    · exact h i' j' h1 h2 (.inl (by omega))
  · omega
theorem NoneBefore.all {c : Cron} {t a n : Int} (hy : NoneYet c t a n) (h : NoneBefore c t n c.ho.length 0) : NoneYet c t a (n + 1) := fun n' x h1 h2 hh => by
  by_cases e : n' < n
  · exact hy n' x h1 e hh
  · obtain rfl : n' = n := by omega
    obtain ⟨i, hi, ei⟩ := mem_at hh.ho
    obtain ⟨j, hj, ej⟩ := mem_at hh.mi
    have h3 := h i j hi hj (.inl hi)
    rw [ei, ej] at h3
    have := hh.later
    omega
theorem hit_of {c : Cron} (hg : CronG c) {t n : Int} {i j : Nat} (hi : i < c.ho.length) (hj : j < c.mi.length) (hf : FitP c n true) (ht : t < (n * 1440 + (c.ho.getD i 0 * 60 + c.mi.getD j 0)) * 60) : Hit c t n (c.ho.getD i 0 * 60 + c.mi.getD j 0) := by
  have h1 := ris_at hg.ho i hi
  have h2 := ris_at hg.mi j hj
  obtain ⟨a1, a2, _⟩ := h1
  obtain ⟨b1, b2, _⟩ := h2
  have e1 : (c.ho.getD i 0 * 60 + c.mi.getD j 0) / 60 = c.ho.getD i 0 := by omega
  have e2 : (c.ho.getD i 0 * 60 + c.mi.getD j 0) % 60 = c.mi.getD j 0 := by omega
  exact ⟨hf, by omega, by omega, by rw [e1]; exact at_mem hi, by rw [e2]; exact at_mem hj, ht⟩
theorem next_found {c : Cron} (hg : CronG c) {t a b n : Int} {i j : Nat} (hy : NoneYet c t a n) (ha : a ≤ n) (hb : n ≤ b) (hnb : NoneBefore c t n i j) (hi : i < c.ho.length) (hj : j < c.mi.length) (hf : FitP c n true) (ht : t < (n * 1440 + (c.ho.getD i 0 * 60 + c.mi.getD j 0)) * 60) :
    NextP c t a b (some ((n * 1440 + (c.ho.getD i 0 * 60 + c.mi.getD j 0)) * 60)) := by
  have hh := hit_of hg hi hj hf ht
  refine ⟨⟨n, _, ha, hb, hh, rfl⟩, fun n' x' h1 h2 h3 => ?_⟩
  by_cases e : n' < n
  · exact absurd h3 (hy n' x' h1 e)
  · by_cases e2 : n < n'
    · have := h3.lo
      have := hh.hi
      omega
    · obtain rfl : n' = n := by omega
      obtain ⟨i', hi', ei⟩ := mem_at h3.ho
      obtain ⟨j', hj', ej⟩ := mem_at h3.mi
      have hx : x' = c.ho.getD i' 0 * 60 + c.mi.getD j' 0 := by rw [ei, ej]; omega
      have hlt : ¬ (i' < i ∨ (i' = i ∧ j' < j)) := fun hc => hnb i' j' hi' hj' hc (by rw [← hx]; exact h3.later)
      have hm1 := ris_at hg.mi j hj
      have hm2 := ris_at hg.mi j' hj'
      obtain ⟨b1, b2, _⟩ := hm1
      obtain ⟨b1', b2', _⟩ := hm2
      rw [hx]
      rcases Nat.lt_trichotomy i i' with q | q | q
      · have := ris_lt hg.ho q hi'
        omega
      · subst q
        rcases Nat.lt_trichotomy j j' with q | q | q
        · have := ris_lt hg.mi q hj'
          omega
        · subst q; omega
        · exact absurd (.inr ⟨rfl, q⟩) hlt
      · exact absurd (.inl q) hlt
theorem next_none {c : Cron} {t a b : Int} (h : NoneYet c t a (b + 1)) : NextP c t a b none := fun n x h1 h2 => h n x h1 (by omega)
end Go.Proofs.YtdnbnpknmdcljaaGreatDoor
