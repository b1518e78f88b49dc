/- Plain: how great the parts are that reading makes. -/
import Derived.Test.YtidgahnamdhflaaDoorPsxH
namespace Go.Proofs.YtidgahnamdhflaaDoor
open Go Go.Proofs.YtidgahnamdhflaaDoor.Fld Go.Proofs.YtidgahnamdhflaaDoor.Prt Go.Proofs.YtidgahnamdhflaaDoor.Psx
theorem valsP_many : ∀ (f : Nat) (acc : List (List UInt8)) (s : List UInt8), (valsP f acc s).2.1.length ≤ acc.length + f := by
  intro f
  induction f with
  | zero => intro acc s; exact Nat.zero_le _
  | succ f ih =>
    intro acc s
    unfold valsP
    simp only
    split
    · exact Nat.zero_le _
    · split
      · have := ih (acc ++ [(valP s.tail).v]) (valP s.tail).rest
        rw [List.length_append, List.length_singleton] at this
        omega
      · split
        · show (acc ++ [(valP s.tail).v]).length ≤ _
          rw [List.length_append, List.length_singleton]; omega
        · exact Nat.zero_le _
theorem prmP_many (s : List UInt8) : (prmP s).2.1.vals.length ≤ s.length + 1 := by
  unfold prmP
  split
  · exact Nat.zero_le _
  · rename_i i hi
    simp only
    split
    · exact Nat.zero_le _
    · split
      · exact Nat.zero_le _
      · show (List.map bs _).length ≤ _
        rw [List.length_map]
        have := valsP_many (s.length + 1) [] (s.drop i)
        simpa using this
theorem prmsP_many (B : Nat) : ∀ (f : Nat) (acc : List Prm) (s : List UInt8), s.length ≤ B → (∀ x, x ∈ acc → x.vals.length ≤ B + 1) → (prmsP f acc s).2.1.length ≤ acc.length + f ∧ ∀ x, x ∈ (prmsP f acc s).2.1 → x.vals.length ≤ B + 1 := by
  intro f
  induction f with
  | zero => intro acc s _ _; exact ⟨Nat.zero_le _, fun x h => by cases h⟩
  | succ f ih =>
    intro acc s hs hacc
    by_cases h : s.head? = some 59
    · by_cases h2 : (prmP s.tail).1 = 0
      · rw [prmsP_go h h2]
        have h3 := (prmP_ok h2).2.1
        have h4 := prmP_many s.tail
        simp only [List.length_tail] at h3 h4
        obtain ⟨i1, i2⟩ := ih (acc ++ [(prmP s.tail).2.1]) (prmP s.tail).2.2 (by omega) (fun x hx => by
          rcases List.mem_append.1 hx with hx | hx
          · exact hacc x hx
          · rw [List.mem_singleton] at hx
            subst hx
            omega)
        rw [List.length_append, List.length_singleton] at i1
        exact ⟨by omega, i2⟩
      · unfold prmsP; rw [if_pos h]; simp only; rw [if_pos h2]; exact ⟨Nat.zero_le _, fun x h => by cases h⟩
    · rw [prmsP_end h]; exact ⟨Nat.le_add_right _ _, hacc⟩
/-- A line of at most so many params and values. -/
def LnB (B : Nat) (x : Ln) : Prop := x.prms.length ≤ B + 1 ∧ ∀ y, y ∈ x.prms → y.vals.length ≤ B + 1
theorem lnP_many (B : Nat) (l : List UInt8) (h : l.length ≤ B) : LnB B (lnP l).2 := by
  have h0 : LnB B ln0 := ⟨Nat.zero_le _, fun y h => by cases h⟩
  unfold lnP
  split
  · exact h0
  · rename_i i hi
    simp only
    split
    · exact h0
    · split
      · exact h0
      · split
        · exact h0
        · obtain ⟨i1, i2⟩ := prmsP_many B (l.length + 1) [] (l.drop i) (by rw [List.length_drop]; omega) (fun x h => by cases h)
          exact ⟨by simp at i1; show (prmsP (l.length + 1) [] (l.drop i)).2.1.length ≤ B + 1; omega, i2⟩
/-- A part of at most so many levels, lines, parts. -/
def PtB (B : Nat) : Nat → Part → Prop
  | 0, _ => False
  | k + 1, p => p.lines.length ≤ B + 1 ∧ p.parts.length ≤ B + 1 ∧ (∀ x, x ∈ p.lines → LnB B x) ∧ ∀ c, c ∈ p.parts → PtB B k c
theorem loopP_many {B k : Nat} {lines : List (List UInt8)} {g : Nat → PtP} {nm : ByteArray} (hl : ∀ i, (lines.getD i []).length ≤ B) (hg : ∀ a, (g a).err = 0 → PtB B k (g a).part) : ∀ (f : Nat) (ls : List Ln) (ps : List Part) (a : Nat), ls.length + f ≤ B + 1 → ps.length + f ≤ B + 1 → (∀ x, x ∈ ls → LnB B x) → (∀ c, c ∈ ps → PtB B k c) → (loopP lines g nm f ls ps a).err = 0 → PtB B (k + 1) (loopP lines g nm f ls ps a).part := by
  intro f
  induction f with
  | zero => intro ls ps a _ _ _ _ h; exact absurd h (show (13 : Int) ≠ 0 by decide)
  | succ f ih =>
    intro ls ps a h1 h2 hls hps h
    by_cases ha : a < lines.length
    · rw [loopP_step ha] at h ⊢
      split at h
      · rename_i e1; exact absurd h e1
      · rename_i e1
        rw [if_neg e1]
        split at h
        · rename_i e2
          rw [if_pos e2]
          split at h
          · rename_i e3; exact absurd h e3
          · rename_i e3
            rw [if_neg e3]
            exact ih ls (ps ++ [(g a).part]) (g a).pos (by omega) (by rw [List.length_append, List.length_singleton]; omega) hls (fun c hc => by
              rcases List.mem_append.1 hc with hc | hc
              · exact hps c hc
              · rw [List.mem_singleton] at hc
                subst hc
                exact hg a (by omega)) h
        · rename_i e2
          rw [if_neg e2]
          split at h
          · rename_i e3
            rw [if_pos e3]
            split at h
            · exact absurd h (show (5 : Int) ≠ 0 by decide)
            · rename_i e4
              rw [if_neg e4]
              exact ⟨by show ls.length ≤ _; omega, by show ps.length ≤ _; omega, hls, hps⟩
          · rename_i e3
            rw [if_neg e3]
            split at h
            · exact absurd h (show (7 : Int) ≠ 0 by decide)
            · rename_i e4
              rw [if_neg e4]
              exact ih (ls ++ [(lnP (lines.getD a [])).2]) ps (a + 1) (by rw [List.length_append, List.length_singleton]; omega) (by omega) (fun x hx => by
                rcases List.mem_append.1 hx with hx | hx
                · exact hls x hx
                · rw [List.mem_singleton] at hx
                  subst hx
                  exact lnP_many B _ (hl a)) hps h
    · rw [loopP_out ha] at h; exact absurd h (show (13 : Int) ≠ 0 by decide)
theorem partP_many {B : Nat} {lines : List (List UInt8)} (hn : lines.length ≤ B) (hl : ∀ i, (lines.getD i []).length ≤ B) : ∀ (k a : Nat), (partP lines k a).err = 0 → PtB B k (partP lines k a).part := by
  intro k
  induction k with
  | zero =>
    intro a h
    by_cases he : headE lines a = 0
    · rw [partP_zero he] at h; exact absurd h (show (6 : Int) ≠ 0 by decide)
    · rw [partP_bad he] at h; exact absurd h he
  | succ k ih =>
    intro a h
    by_cases he : headE lines a = 0
    · rw [partP_succ he] at h ⊢
      exact loopP_many hl ih _ [] [] _ (by simp; omega) (by simp; omega) (fun x h => by cases h) (fun c h => by cases h) h
    · rw [partP_bad he] at h; exact absurd h he
theorem parseP_many_ok {l : List UInt8} {B : Nat} (hn : (unfL l).length ≤ B) (hl : ∀ i, ((unfL l).getD i []).length ≤ B) (h : (parseP l).1 = 0) : PtB B 8 (parseP l).2.2 := by
  unfold parseP at *
  split at h
  · exact absurd h (show (6 : Int) ≠ 0 by decide)
  · rename_i h1
    rw [if_neg h1]
    split at h
    · exact absurd h (show (6 : Int) ≠ 0 by decide)
    · rename_i h2
      rw [if_neg h2]
      simp only at h ⊢
      split at h
      · rename_i h3; exact absurd h h3
      · rename_i h3
        rw [if_neg h3]
        split at h
        · exact absurd h (show (5 : Int) ≠ 0 by decide)
        · rename_i h4
          rw [if_neg h4]
          exact partP_many hn hl 8 0 (by omega)
end Go.Proofs.YtidgahnamdhflaaDoor
