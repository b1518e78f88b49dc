/- Plain: hours of work and holidays (no program in sight). -/
import Derived.Test.YtbgcccfgcdkmdaaGreatDoorDaysW
import Derived.Test.YtbgcccfgcdkmdaaGreatDoorDaysV
import Derived.Lib.SlicesCompact
namespace Go.Proofs.YtbgcccfgcdkmdaaGreatDoor.Wrk
open Go Go.Proofs.YtbgcccfgcdkmdaaGreatDoor
/-! ### Sets as lists that rise -/
/-- A number put into a list that rises. -/
def put : List Int → Int → List Int
  | [], n => [n]
  | a :: r, n => if a < n then a :: put r n else if a = n then a :: r else n :: a :: r
def Rises (l : List Int) : Prop := l.Pairwise (· < ·)
theorem put_mem (l : List Int) (n x : Int) : x ∈ put l n ↔ x = n ∨ x ∈ l := by
  induction l with
  | nil => simp [put]
  | cons a r ih =>
    unfold put
    split
    · simp only [List.mem_cons, ih]
      constructor
      · rintro (h | h | h)
        · exact .inr (.inl h)
        · exact .inl h
        · exact .inr (.inr h)
      · rintro (h | h | h)
        · exact .inr (.inl h)
        · exact .inl h
        · exact .inr (.inr h)
    · split
      · rename_i h; subst h; simp
      · simp
theorem put_rises {l : List Int} (h : Rises l) (n : Int) : Rises (put l n) := by
  induction l with
  | nil => exact List.pairwise_singleton _ _
  | cons a r ih =>
    obtain ⟨h1, h2⟩ := List.pairwise_cons.1 h
    unfold put
    split
    · rename_i hlt
      refine List.pairwise_cons.2 ⟨fun x hx => ?_, ih h2⟩
      rcases (put_mem r n x).1 hx with rfl | hx
      · exact hlt
      · exact h1 x hx
    · split
      · exact h
      · rename_i g1 g2
        have hna : n < a := by omega
        refine List.pairwise_cons.2 ⟨fun x hx => ?_, h⟩
        rcases List.mem_cons.1 hx with rfl | hx
        · exact hna
        · exact Int.lt_trans hna (h1 x hx)
theorem put_len (l : List Int) (n : Int) : (put l n).length ≤ l.length + 1 := by
  induction l with
  | nil => simp [put]
  | cons a r ih =>
    unfold put
    split
    · simp only [List.length_cons]; omega
    · split <;> simp
/-- Two lists that rise and have the same numbers are one. -/
theorem rises_one : ∀ {l m : List Int}, Rises l → Rises m → (∀ x, x ∈ l ↔ x ∈ m) → l = m := by
  intro l
  induction l with
  | nil =>
    intro m _ _ h
    cases m with
    | nil => rfl
    | cons b m => exact absurd ((h b).2 List.mem_cons_self) List.not_mem_nil
  | cons a l ih =>
    intro m h1 h2 h
    cases m with
    | nil => exact absurd ((h a).1 List.mem_cons_self) List.not_mem_nil
    | cons b m =>
      obtain ⟨p1, p2⟩ := List.pairwise_cons.1 h1
      obtain ⟨q1, q2⟩ := List.pairwise_cons.1 h2
      have hab : a = b := by
        have ha := (h a).1 List.mem_cons_self
        have hb := (h b).2 List.mem_cons_self
        rcases List.mem_cons.1 ha with e | ha
        · exact e
        · rcases List.mem_cons.1 hb with e | hb
          · exact e.symm
          · have := q1 a ha; have := p1 b hb; omega
      subst hab
      rw [ih p2 q2 fun x => ?_]
      constructor
      · intro hx
        rcases List.mem_cons.1 ((h x).1 (List.mem_cons_of_mem _ hx)) with e | hx2
        · have := p1 x hx; omega
        · exact hx2
      · intro hx
        rcases List.mem_cons.1 ((h x).2 (List.mem_cons_of_mem _ hx)) with e | hx2
        · have := q1 x hx; omega
        · exact hx2
theorem upTo_mem (d : Array Int) (hs : ∀ i j, i ≤ j → j < d.size → d[i]! ≤ d[j]!) : ∀ m, m ≤ d.size → Rises (Lib.compactUpTo d m) ∧ (∀ x, x ∈ Lib.compactUpTo d m ↔ ∃ i, i < m ∧ d[i]! = x) := by
  intro m
  induction m with
  | zero => intro _; exact ⟨List.Pairwise.nil, fun x => by simp [Lib.compactUpTo]⟩
  | succ m ih =>
    intro hm
    obtain ⟨h1, h2⟩ := ih (by omega)
    rw [Lib.compactUpTo_succ]
    by_cases h0 : m = 0
    · subst h0
      have : Lib.keeps d 0 = true := Lib.keeps_lt_one d 0 (by omega)
      rw [if_pos this]
      refine ⟨?_, fun x => ?_⟩
      · have : Lib.compactUpTo d 0 = [] := rfl
        rw [this]; exact List.pairwise_singleton _ _
      · have : Lib.compactUpTo d 0 = [] := rfl
        rw [this]
        simp only [List.nil_append, List.mem_singleton]
        exact ⟨fun h => ⟨0, by omega, h.symm⟩, fun ⟨i, hi, h⟩ => by obtain rfl : i = 0 := (by omega); exact h.symm⟩
    · have hle := hs (m - 1) m (by omega) (by omega)
      by_cases he : d[m]! = d[m - 1]!
      · rw [if_neg (by rw [Lib.keeps_neg (by omega) he]; decide), List.append_nil]
        refine ⟨h1, fun x => (h2 x).trans ⟨fun ⟨i, hi, h⟩ => ⟨i, by omega, h⟩, fun ⟨i, hi, h⟩ => ?_⟩⟩
        by_cases hi2 : i < m
        · exact ⟨i, hi2, h⟩
        · obtain rfl : i = m := by omega
          exact ⟨i - 1, by omega, by rw [← he]; exact h⟩
      · rw [if_pos (Lib.keeps_pos he)]
        refine ⟨List.pairwise_append.2 ⟨h1, List.pairwise_singleton _ _, fun a ha b hb => ?_⟩, fun x => ?_⟩
        · obtain ⟨i, hi, rfl⟩ := (h2 a).1 ha
          rw [List.mem_singleton] at hb
          subst hb
          have := hs i (m - 1) (by omega) (by omega)
          omega
        · rw [List.mem_append, List.mem_singleton, h2]
          constructor
          · rintro (⟨i, hi, h⟩ | h)
            · exact ⟨i, by omega, h⟩
            · exact ⟨m, by omega, h.symm⟩
          · rintro ⟨i, hi, h⟩
            by_cases hi2 : i < m
            · exact .inl ⟨i, hi2, h⟩
            · obtain rfl : i = m := by omega
              exact .inr h.symm
/-- Sorted, and each number once. -/
theorem sort_compact (zs : List Int) : Rises (Lib.compact (zs.mergeSort fun x y => decide (x ≤ y))) ∧ ∀ x, x ∈ Lib.compact (zs.mergeSort fun x y => decide (x ≤ y)) ↔ x ∈ zs := by
  have hp : (zs.mergeSort fun x y => decide (x ≤ y)).Pairwise (fun a b => decide (a ≤ b) = true) := List.pairwise_mergeSort (fun a b c h1 h2 => by simp at *; omega) (fun a b => by simp; omega) zs
  obtain ⟨l, hl⟩ : ∃ l, (zs.mergeSort fun x y => decide (x ≤ y)) = l := ⟨_, rfl⟩
  have hm : ∀ x, x ∈ l ↔ x ∈ zs := fun x => by rw [← hl]; exact List.mem_mergeSort
  rw [hl] at hp ⊢
  have hs : ∀ i j, i ≤ j → j < l.toArray.size → l.toArray[i]! ≤ l.toArray[j]! := by
    intro i j hij hj
    rw [List.size_toArray] at hj
    have hi : i < l.length := by omega
    simp only [List.getElem!_toArray, List.getElem!_eq_getElem?_getD, List.getElem?_eq_getElem hj, List.getElem?_eq_getElem hi, Option.getD_some]
    by_cases e : i = j
    · subst e; exact Int.le_refl _
    · have := List.pairwise_iff_getElem.1 hp i j hi hj (by omega)
      simpa using this
  obtain ⟨h1, h2⟩ := upTo_mem l.toArray hs l.length (by simp)
  refine ⟨h1, fun x => (h2 x).trans (Iff.trans ?_ (hm x))⟩
  constructor
  · rintro ⟨i, hi, h⟩
    simp only [List.getElem!_toArray, List.getElem!_eq_getElem?_getD, List.getElem?_eq_getElem hi, Option.getD_some] at h
    rw [← h]; exact List.getElem_mem hi
  · intro hx
    obtain ⟨i, hi, h⟩ := List.getElem_of_mem hx
    exact ⟨i, hi, by simp only [List.getElem!_toArray, List.getElem!_eq_getElem?_getD, List.getElem?_eq_getElem hi, Option.getD_some]; exact h⟩
/-! ### Holidays -/
structure Hol where
  kind : Int
  cal : Int
  month : Int
  day : Int
  n : Int
  wday : Int
  off : Int
  lo : Int
  hi : Int
  moves : Int
/-- What is wrong with a holiday. -/
def hE (x : Hol) : Int :=
  if x.kind < 1 ∨ 4 < x.kind ∨ x.moves < 0 ∨ 2 < x.moves ∨ x.lo < 1 ∨ 9999 < x.hi ∨ x.hi < x.lo then 1
  else if x.kind = 1 then
    (if x.cal < 1 ∨ 10 < x.cal then 2 else if x.month < 1 ∨ 13 < x.month ∨ x.day < 1 ∨ 31 < x.day ∨ x.n ≠ 0 ∨ x.wday ≠ 0 ∨ x.off ≠ 0 then 1 else 0)
  else if x.kind = 2 then
    (if x.month < 1 ∨ 12 < x.month ∨ x.n < -5 ∨ 5 < x.n ∨ x.n = 0 ∨ x.wday < 1 ∨ 7 < x.wday ∨ x.cal ≠ 0 ∨ x.day ≠ 0 ∨ x.off ≠ 0 then 1 else 0)
  else (if x.off < -100 ∨ 100 < x.off ∨ x.cal ≠ 0 ∨ x.month ≠ 0 ∨ x.day ≠ 0 ∨ x.n ≠ 0 ∨ x.wday ≠ 0 then 1 else 0)
/-- The first day of a year. -/
def y1 (y : Int) : Int := Dm.first 1 + Dm.start 1 y
/-- A holiday would be on a day of a year. -/
def OnD (x : Hol) (y d : Int) : Prop :=
  if x.kind = 1 then y1 y ≤ d ∧ d < y1 (y + 1) ∧ ∃ yy, Dm.Valid x.cal yy x.month x.day ∧ Dm.dayOf x.cal yy x.month x.day = d
  else if x.kind = 2 then ∃ k, 1 ≤ k ∧ k ≤ Dm.length 1 y x.month ∧ d = Dm.dayOf 1 y x.month k ∧ Dm.wd d = x.wday ∧ (x.n = (k - 1) / 7 + 1 ∨ x.n = -((Dm.length 1 y x.month - k) / 7) - 1)
  else d = Dm.sunday (Dm.full (decide (x.kind = 4)) y) + x.off
/-- Where it goes. -/
def mv (how d : Int) : Int := if how = 0 ∨ Dm.wd d < 6 then d else if how = 2 ∧ Dm.wd d = 6 then d - 1 else d + 8 - Dm.wd d
def HolD (H : List Hol) (y d : Int) : Prop := ∃ x, x ∈ H ∧ x.lo ≤ y ∧ y ≤ x.hi ∧ ∃ d0, OnD x y d0 ∧ d = mv x.moves d0
/-! ### By date -/
theorem year_of {c yy m d Y : Int} (c1 : 1 ≤ c) (c2 : c ≤ 10) (h : Dm.Valid c yy m d) (hY1 : -20099 ≤ Y) (hY2 : Y ≤ 20898) (h1 : Dm.start c Y ≤ Dm.dayOf c yy m d - Dm.first c) (h2 : Dm.dayOf c yy m d - Dm.first c < Dm.start c (Y + 1)) : yy = Y := by
  have hi := Dm.in_year c yy m d c1 c2 h
  obtain ⟨v1, v2, -⟩ := h
  rcases Int.lt_trichotomy yy Y with g | g | g
  · have := Dm.start_le c (yy + 1) Y c1 c2 (by omega) (by omega) (by omega); omega
  · exact g
  · have := Dm.start_le c (Y + 1) yy c1 c2 (by omega) (by omega) (by omega); omega
/-- Three years of a calendar meet a year of the Gregorian one. -/
theorem three_years {c Y m0 d0 yy m d n : Int} (c1 : 1 ≤ c) (c2 : c ≤ 10) (h0 : Dm.Valid c Y m0 d0) (e0 : Dm.dayOf c Y m0 d0 = n) (h : Dm.Valid c yy m d) (h1 : n ≤ Dm.dayOf c yy m d) (h2 : Dm.dayOf c yy m d < n + 366) (hy : Y < 20000) : Y ≤ yy ∧ yy ≤ Y + 2 := by
  have i0 := Dm.in_year c Y m0 d0 c1 c2 h0
  have i1 := Dm.in_year c yy m d c1 c2 h
  obtain ⟨v1, v2, -⟩ := h
  obtain ⟨u1, u2, -⟩ := h0
  constructor
  · rcases Int.lt_or_le yy Y with g | g
    · have := Dm.start_le c (yy + 1) Y c1 c2 (by omega) (by omega) (by omega); omega
    · exact g
  · rcases Int.lt_or_le (Y + 2) yy with g | g
    · have := Dm.start_le c (Y + 1) yy c1 c2 (by omega) (by omega) (by omega); omega
    · exact g
/-! ### The N-th weekday -/
def one1 (y m : Int) : Int := Dm.dayOf 1 y m 1
/-- Where the N-th weekday would be. -/
def nthD (y m W n : Int) : Int :=
  if n < 0 then one1 y m + Dm.length 1 y m - 1 - (Dm.wd (one1 y m + Dm.length 1 y m - 1) - W + 7) % 7 + 7 * (n + 1)
  else one1 y m + (W - Dm.wd (one1 y m) + 7) % 7 + 7 * (n - 1)
theorem nth_on {x : Hol} {y d : Int} (hk : x.kind = 2) (hw1 : 1 ≤ x.wday) (hw2 : x.wday ≤ 7) : OnD x y d ↔ d = nthD y x.month x.wday x.n ∧ one1 y x.month ≤ d ∧ d < one1 y x.month + Dm.length 1 y x.month := by
  have hday : ∀ k, Dm.dayOf 1 y x.month k = one1 y x.month + k - 1 := fun k => by unfold one1 Dm.dayOf; omega
  unfold OnD
  rw [if_neg (by omega), if_pos hk]
  obtain ⟨o, ho⟩ : ∃ o, one1 y x.month = o := ⟨_, rfl⟩
  obtain ⟨L, hL⟩ : ∃ L, Dm.length 1 y x.month = L := ⟨_, rfl⟩
  unfold nthD
  simp only [hday, ho, hL]
  constructor
  · rintro ⟨k, k1, k2, rfl, hw, hor⟩
    refine ⟨?_, by omega, by omega⟩
    unfold Dm.wd at *
    split
    · rcases hor with h | h <;> omega
    · rcases hor with h | h <;> omega
  · rintro ⟨hd, h1, h2⟩
    refine ⟨d - o + 1, by omega, by omega, by omega, ?_, ?_⟩
    · unfold Dm.wd at *
      split at hd <;> omega
    · unfold Dm.wd at *
      split at hd
      · right; omega
      · left; omega
/-- What goes() does. -/
theorem mv_goes {how d : Int} (h : ¬ (how = 0 ∨ Dm.wd d < 6)) (h2 : ¬ (how = 2 ∧ Dm.wd d = 6)) : mv how d = d + 8 - Dm.wd d := by unfold mv; rw [if_neg h, if_neg h2]
theorem wd_mon (d : Int) : Dm.wd (d + 8 - Dm.wd d) = 1 := by unfold Dm.wd; omega
end Go.Proofs.YtbgcccfgcdkmdaaGreatDoor.Wrk
