/- Meetings: plain. -/
import Derived.Test.YtbmndenopgkpoaaDoorMomA
namespace Go.Proofs.YtbmndenopgkpoaaDoor
/-- What is asked for. -/
structure Wnt where
  len : Int
  step : Int
  frm : Int
  to : Int
  must : List Int
  should : List Int
  seats : Int
/-- Each once, and all of them among so many. -/
def whoB (l : List Int) (n : Int) : Bool := decide (l.Nodup ∧ ∀ x, x ∈ l → 0 ≤ x ∧ x < n)
def wChk (W : Wnt) (n : Int) : Int :=
  if W.len < 1 ∨ 34560000 < W.len ∨ W.step < 1 ∨ W.seats < 0 then 1
  else if W.to < W.frm ∨ W.frm < -345600086399 ∨ 345600086399 < W.to then 4
  else if 10000 < (W.to - W.frm) / W.step then 6
  else if whoB (W.must ++ W.should) n = true then 0 else 1
/-- Nothing of a time is of a set. -/
def canB (L : List Iv) (a b : Int) : Bool := L.all fun p => !(decide (p.1 < b) && decide (a < p.2))
theorem canB_iff {L : List Iv} {a b : Int} : canB L a b = true ↔ ∀ p, p ∈ L → ¬ (p.1 < b ∧ a < p.2) := by
  unfold canB
  rw [List.all_eq_true]
  constructor
  · intro h p hp g
    have := h p hp
    rw [decide_eq_true g.1, decide_eq_true g.2] at this
    cases this
  · intro h p hp
    have := h p hp
    by_cases h1 : p.1 < b
    · by_cases h2 : a < p.2
      · exact absurd ⟨h1, h2⟩ this
      · rw [decide_eq_false h2]; simp
    · rw [decide_eq_false h1]; simp
def missL (P : List (List Iv)) (l : List Int) (a b : Int) : List Int := l.filter fun i => !canB (P.getD i.toNat []) a b
def sortL (l : List Int) : List Int := l.mergeSort fun x y => decide (x ≤ y)
abbrev Rm := Int × List Iv
def rm0 : Rm := (0, [])
def candB (R : List Rm) (seats a b : Int) (i : Nat) : Bool := decide (seats ≤ (R.getD i rm0).1) && canB (R.getD i rm0).2 a b
/-- The room, the first so many having been looked at. -/
def roomF (R : List Rm) (seats a b : Int) : Nat → Int
  | 0 => -1
  | k + 1 => if candB R seats a b k = true ∧ (roomF R seats a b k < 0 ∨ (R.getD k rm0).1 < (R.getD (roomF R seats a b k).toNat rm0).1) then k else roomF R seats a b k
/-- The room, the last so many having been looked at, from behind. -/
def roomG (R : List Rm) (seats a b : Int) (n : Nat) : Nat → Int
  | 0 => -1
  | j + 1 => if candB R seats a b (n - 1 - j) = true ∧ (roomG R seats a b n j < 0 ∨ (R.getD (n - 1 - j) rm0).1 ≤ (R.getD (roomG R seats a b n j).toNat rm0).1) then ((n - 1 - j : Nat) : Int) else roomG R seats a b n j
/-- The best of the rooms of a range. -/
def BestR (R : List Rm) (seats a b : Int) (lo hi : Nat) (r : Int) : Prop :=
  (r = -1 ∧ ∀ j, lo ≤ j → j < hi → candB R seats a b j = false) ∨ ∃ i : Nat, r = i ∧ lo ≤ i ∧ i < hi ∧ candB R seats a b i = true ∧ ∀ j, lo ≤ j → j < hi → candB R seats a b j = true → (R.getD i rm0).1 < (R.getD j rm0).1 ∨ ((R.getD i rm0).1 = (R.getD j rm0).1 ∧ i ≤ j)
theorem BestR.one {R : List Rm} {seats a b : Int} {lo hi : Nat} {r r' : Int} (h : BestR R seats a b lo hi r) (h' : BestR R seats a b lo hi r') : r = r' := by
  rcases h with ⟨e, h⟩ | ⟨i, e, h1, h2, h3, h4⟩
  · rcases h' with ⟨e', _⟩ | ⟨i', e', g1, g2, g3, _⟩
    · omega
    · rw [h i' g1 g2] at g3; cases g3
  · rcases h' with ⟨e', g⟩ | ⟨i', e', g1, g2, g3, g4⟩
    · rw [g i h1 h2] at h3; cases h3
    · have a1 := h4 i' g1 g2 g3
      have a2 := g4 i h1 h2 h3
      omega
theorem roomF_best (R : List Rm) (seats a b : Int) : ∀ k, BestR R seats a b 0 k (roomF R seats a b k)
  | 0 => .inl ⟨rfl, fun j _ h => absurd h (by omega)⟩
  | k + 1 => by
    have ih := roomF_best R seats a b k
    unfold roomF
    split
    · rename_i h
      obtain ⟨h1, h2⟩ := h
      refine .inr ⟨k, rfl, by omega, by omega, h1, fun j _ hj hc => ?_⟩
      by_cases hjk : j = k
      · subst hjk; exact .inr ⟨rfl, Nat.le_refl _⟩
      · rcases ih with ⟨e, g⟩ | ⟨i, e, g1, g2, g3, g4⟩
        · rw [g j (by omega) (by omega)] at hc; cases hc
        · have g5 := g4 j (by omega) (by omega) hc
          rw [e, Int.toNat_natCast] at h2
          rcases h2 with h2 | h2
          · omega
          · omega
    · rename_i h
      rcases ih with ⟨e, g⟩ | ⟨i, e, g1, g2, g3, g4⟩
      · refine .inl ⟨e, fun j _ hj => ?_⟩
        by_cases hjk : j = k
        · subst hjk
          cases hc : candB R seats a b j
          · rfl
          · exact absurd ⟨hc, .inl (by omega)⟩ h
        · exact g j (by omega) (by omega)
      · refine .inr ⟨i, e, by omega, by omega, g3, fun j _ hj hc => ?_⟩
        by_cases hjk : j = k
        · subst hjk
          rw [e, Int.toNat_natCast] at h
          have h5 : ¬ (R.getD j rm0).1 < (R.getD i rm0).1 := fun h6 => h ⟨hc, .inr h6⟩
          omega
        · exact g4 j (by omega) (by omega) hc
theorem roomG_best (R : List Rm) (seats a b : Int) (n : Nat) : ∀ j, j ≤ n → BestR R seats a b (n - j) n (roomG R seats a b n j)
  | 0, _ => .inl ⟨rfl, fun j h1 h2 => absurd h2 (by omega)⟩
  | j + 1, hjn => by
    have ih := roomG_best R seats a b n j (by omega)
    obtain ⟨k, hk⟩ : ∃ k, n - 1 - j = k := ⟨_, rfl⟩
    have e1 : n - (j + 1) = k := by omega
    have e2 : n - j = k + 1 := by omega
    unfold roomG
    rw [hk, e1]
    rw [e2] at ih
    split
    · rename_i h
      obtain ⟨h1, h2⟩ := h
      refine .inr ⟨k, rfl, by omega, by omega, h1, fun q hq1 hq hc => ?_⟩
      by_cases hjk : q = k
      · subst hjk; exact .inr ⟨rfl, Nat.le_refl _⟩
      · rcases ih with ⟨e, g⟩ | ⟨i, e, g1, g2, g3, g4⟩
        · rw [g q (by omega) (by omega)] at hc; cases hc
        · have g5 := g4 q (by omega) (by omega) hc
          rw [e, Int.toNat_natCast] at h2
          rcases h2 with h2 | h2
          · omega
          · omega
    · rename_i h
      rcases ih with ⟨e, g⟩ | ⟨i, e, g1, g2, g3, g4⟩
      · refine .inl ⟨e, fun q hq1 hq => ?_⟩
        by_cases hjk : q = k
        · subst hjk
          cases hc : candB R seats a b q
          · rfl
          · exact absurd ⟨hc, .inl (by omega)⟩ h
        · exact g q (by omega) (by omega)
      · refine .inr ⟨i, e, by omega, by omega, g3, fun q hq1 hq hc => ?_⟩
        by_cases hjk : q = k
        · subst hjk
          rw [e, Int.toNat_natCast] at h
          have h5 : ¬ (R.getD q rm0).1 ≤ (R.getD i rm0).1 := fun h6 => h ⟨hc, .inr h6⟩
          omega
        · exact g4 q (by omega) (by omega) hc
theorem room_same (R : List Rm) (seats a b : Int) (n : Nat) : roomG R seats a b n n = roomF R seats a b n := by
  have h1 := roomG_best R seats a b n n (Nat.le_refl _)
  rw [Nat.sub_self] at h1
  exact h1.one (roomF_best R seats a b n)
theorem roomF_bd (R : List Rm) (seats a b : Int) (k : Nat) : -1 ≤ roomF R seats a b k ∧ roomF R seats a b k < k ∧ (roomF R seats a b k < 0 → roomF R seats a b k = -1) := by
  rcases roomF_best R seats a b k with ⟨e, _⟩ | ⟨i, e, _, h, _⟩
  · omega
  · omega
/-- The meeting that begins at a moment: its room, who can't. -/
def slotR (W : Wnt) (P : List (List Iv)) (R : List Rm) (a : Int) : Option (Int × List Int) :=
  if missL P W.must a (a + W.len) = [] then
    (if W.seats = 0 then some (-1, sortL (missL P W.should a (a + W.len)))
     else if 0 ≤ roomF R W.seats a (a + W.len) R.length then some (roomF R W.seats a (a + W.len) R.length, sortL (missL P W.should a (a + W.len))) else none)
  else none
abbrev Sl := Int × Int × List Int
def better (b : Option Sl) (a : Int) : Option (Int × List Int) → Option Sl
  | none => b
  | some (r, m) => match b with
    | none => some (a, r, m)
    | some c => if m.length < c.2.2.length then some (a, r, m) else b
def findS (W : Wnt) (P : List (List Iv)) (R : List Rm) : Nat → Int → Option Sl → Option Sl
  | 0, _, b => b
  | f + 1, a, b => if a + W.len ≤ W.to then (if W.step ≤ W.to - a then findS W P R f (a + W.step) (better b a (slotR W P R a)) else better b a (slotR W P R a)) else b
theorem findS_end {W : Wnt} {P : List (List Iv)} {R : List Rm} {a : Int} {b : Option Sl} : ∀ f, ¬ a + W.len ≤ W.to → findS W P R f a b = b
  | 0, _ => rfl
  | _ + 1, h => if_neg h
theorem findS_last {W : Wnt} {P : List (List Iv)} {R : List Rm} {a : Int} {b : Option Sl} {f : Nat} (h : a + W.len ≤ W.to) (h2 : ¬ W.step ≤ W.to - a) : findS W P R (f + 1) a b = better b a (slotR W P R a) := by
  rw [findS, if_pos h, if_neg h2]
theorem findS_next {W : Wnt} {P : List (List Iv)} {R : List Rm} {a : Int} {b : Option Sl} {f : Nat} (h : a + W.len ≤ W.to) (h2 : W.step ≤ W.to - a) : findS W P R (f + 1) a b = findS W P R f (a + W.step) (better b a (slotR W P R a)) := by
  rw [findS, if_pos h, if_pos h2]
/-- So many rounds are enough. -/
def fuelW (W : Wnt) : Nat := (W.to - W.frm).toNat + 1
def fndE (W : Wnt) (P : List (List Iv)) (R : List Rm) : Int := if wChk W P.length ≠ 0 then wChk W P.length else if findS W P R (fuelW W) W.frm none = none then 12 else 0
def fndS (W : Wnt) (P : List (List Iv)) (R : List Rm) : Sl := if wChk W P.length ≠ 0 then (0, 0, []) else (findS W P R (fuelW W) W.frm none).getD (0, 0, [])
end Go.Proofs.YtbmndenopgkpoaaDoor
