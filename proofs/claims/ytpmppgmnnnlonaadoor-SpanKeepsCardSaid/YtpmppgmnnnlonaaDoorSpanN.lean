/- Nets: what no third span lets be, left out. Plain: the program's and the document's ways of leaving out end at the same net. -/
import Derived.Test.YtpmppgmnnnlonaaDoorSpanP
namespace Go.Proofs.YtpmppgmnnnlonaaDoor
open Go.RowKit
/-- A set's ways are among another's. -/
def Sub (a b : Nat) : Prop := ∀ v, v < 13 → a.testBit v = true → b.testBit v = true
theorem Sub.rfl' (a : Nat) : Sub a a := fun _ _ h => h
theorem Sub.trans {a b c : Nat} (h : Sub a b) (g : Sub b c) : Sub a c := fun v hv e => g v hv (h v hv e)
theorem sub_and {a b c : Nat} (h : Sub c a) (g : Sub c b) : Sub c (a &&& b) := fun v hv e => by rw [Nat.testBit_and, h v hv e, g v hv e]; rfl
theorem and_left (a b : Nat) : Sub (a &&& b) a := fun v _ e => by rw [Nat.testBit_and, Bool.and_eq_true] at e; exact e.1
theorem and_right (a b : Nat) : Sub (a &&& b) b := fun v _ e => by rw [Nat.testBit_and, Bool.and_eq_true] at e; exact e.2
theorem sub_one {a b : Nat} (ha : a < 8192) (hb : b < 8192) (h : Sub a b) (g : Sub b a) : a = b := set_ext a b ha hb fun v hv => ⟨h v hv, g v hv⟩
theorem and_same {a b : Nat} (ha : a < 8192) (h : Sub a b) : a &&& b = a := sub_one (Nat.and_lt_two_pow (n := 13) b ha |> fun h => by
    have : a &&& b ≤ a := Nat.and_le_left
    omega) ha (and_left a b) (sub_and (Sub.rfl' a) h)
theorem sub_of_and {a b : Nat} (h : a &&& b = a) : Sub a b := fun v hv e => by have := and_right a b v hv; rw [h] at this; exact this e
theorem and_lt8 {a b : Nat} (ha : a < 8192) : a &&& b < 8192 := by have : a &&& b ≤ a := Nat.and_le_left; omega
theorem back_has (s v : Nat) (hv : v < 13) : (backN s).testBit v = s.testBit (12 - v) := by
  have h := (setOf_bits fun v => s.testBit (12 - v) = true).2 v hv
  unfold backN
  rw [Bool.eq_iff_iff]; exact h
theorem backN_lt (s : Nat) : backN s < 8192 := setOf_lt _
theorem joinN_lt (p q : Nat) : joinN p q < 8192 := setOf_lt _
theorem back_mono {a b : Nat} (h : Sub a b) : Sub (backN a) (backN b) := fun v hv e => by
  rw [back_has _ _ hv] at e ⊢
  exact h _ (by omega) e
theorem back_back {s : Nat} (hs : s < 8192) : backN (backN s) = s := set_ext _ _ (backN_lt _) hs fun v hv => by
  rw [back_has _ _ hv, back_has _ _ (by omega), show 12 - (12 - v) = v by omega]
theorem sub_back {a b : Nat} (hb : b < 8192) (h : Sub a (backN b)) : Sub (backN a) b := by
  have := back_mono h
  rw [back_back hb] at this
  exact this
theorem join_has (p q v : Nat) (hv : v < 13) : (joinN p q).testBit v = true ↔ ∃ a b : Nat, a < 13 ∧ b < 13 ∧ p.testBit a = true ∧ q.testBit b = true ∧ (Sp.tab a b).testBit v = true :=
  (setOf_bits fun v => ∃ a b : Nat, a < 13 ∧ b < 13 ∧ p.testBit a = true ∧ q.testBit b = true ∧ (Sp.tab a b).testBit v = true).2 v hv
theorem join_mono {p q p' q' : Nat} (h : Sub p p') (g : Sub q q') : Sub (joinN p q) (joinN p' q') := fun v hv e => by
  rw [join_has _ _ _ hv] at e ⊢
  obtain ⟨a, b, ha, hb, h1, h2, h3⟩ := e
  exact ⟨a, b, ha, hb, h a ha h1, g b hb h2, h3⟩
theorem tab_turned : ((List.range 13).all fun a => (List.range 13).all fun b => (List.range 13).all fun v => (Sp.tab a b).testBit (12 - v) == (Sp.tab (12 - b) (12 - a)).testBit v) = true := by decide +kernel
theorem tab_turn (a b v : Nat) (ha : a < 13) (hb : b < 13) (hv : v < 13) : (Sp.tab a b).testBit (12 - v) = (Sp.tab (12 - b) (12 - a)).testBit v := by
  have h := List.all_eq_true.1 (List.all_eq_true.1 (List.all_eq_true.1 tab_turned a (List.mem_range.2 ha)) b (List.mem_range.2 hb)) v (List.mem_range.2 hv)
  exact eq_of_beq h
theorem back_join (p q : Nat) : Sub (backN (joinN p q)) (joinN (backN q) (backN p)) := fun v hv e => by
  rw [back_has _ _ hv, join_has _ _ _ (by omega)] at e
  obtain ⟨a, b, ha, hb, h1, h2, h3⟩ := e
  rw [join_has _ _ _ hv]
  refine ⟨12 - b, 12 - a, by omega, by omega, ?_, ?_, ?_⟩
  · rw [back_has _ _ (by omega), show 12 - (12 - b) = b by omega]; exact h2
  · rw [back_has _ _ (by omega), show 12 - (12 - a) = a by omega]; exact h1
  · rw [← tab_turn a b v ha hb hv]; exact h3
theorem back_eq : backN 64 = 64 := set_ext _ _ (backN_lt _) (by decide) fun v hv => by
  rw [back_has _ _ hv]
  have : ∀ v, v < 13 → (Nat.testBit 64 (12 - v) = true ↔ Nat.testBit 64 v = true) := by decide
  exact this v hv
section
variable (n : Nat) (N : Nat → Nat → Nat)
def SmallX (X : Nat → Nat → Nat) : Prop := ∀ i j, i < n → j < n → X i j < 8192
/-- No third span bars what is there. -/
def JClosed (X : Nat → Nat → Nat) : Prop := ∀ i j k, i < n → j < n → k < n → Sub (X i j) (joinN (X i k) (X k j))
/-- Within the net, both ways; a span is equal to itself. -/
def InS (X : Nat → Nat → Nat) : Prop := ∀ i j, i < n → j < n → Sub (X i j) (N i j) ∧ Sub (X i j) (backN (N j i)) ∧ (i = j → Sub (X i j) 64)
def InD (X : Nat → Nat → Nat) : Prop := ∀ i j, i < n → j < n → Sub (X i j) (N i j) ∧ (i = j → Sub (X i j) 64)
def BClosed (X : Nat → Nat → Nat) : Prop := ∀ i j, i < n → j < n → Sub (X i j) (backN (X j i))
def GoodP (X : Nat → Nat → Nat) : Prop := SmallX n X ∧ InS n N X ∧ JClosed n X
def GoodD (X : Nat → Nat → Nat) : Prop := SmallX n X ∧ InD n N X ∧ BClosed n X ∧ JClosed n X
def TopP (X : Nat → Nat → Nat) : Prop := GoodP n N X ∧ ∀ Z, GoodP n N Z → ∀ i j, i < n → j < n → Sub (Z i j) (X i j)
def TopD (X : Nat → Nat → Nat) : Prop := GoodD n N X ∧ ∀ Z, GoodD n N Z → ∀ i j, i < n → j < n → Sub (Z i j) (X i j)
variable {n N}
/-- Turned about, a good net is one. -/
theorem GoodP.turn {X : Nat → Nat → Nat} (hN : SmallX n N) (h : GoodP n N X) : GoodP n N (fun i j => backN (X j i)) := by
  obtain ⟨h1, h2, h3⟩ := h
  refine ⟨fun i j _ _ => backN_lt _, fun i j hi hj => ⟨?_, ?_, ?_⟩, fun i j k hi hj hk => ?_⟩
  · exact sub_back (hN i j hi hj) (h2 j i hj hi).2.1
  · exact back_mono (h2 j i hj hi).1
  · intro e
    have := back_mono ((h2 j i hj hi).2.2 e.symm)
    rw [back_eq] at this; exact this
  · exact (back_mono (h3 j i k hj hi hk)).trans (back_join _ _)
theorem TopP.back {X : Nat → Nat → Nat} (hN : SmallX n N) (h : TopP n N X) : BClosed n X := fun i j hi hj => by
  have h1 := h.2 _ (h.1.turn hN) j i hj hi
  have h2 := back_mono h1
  rw [back_back (h.1.1 i j hi hj)] at h2
  exact h2
theorem tops_one {X Y : Nat → Nat → Nat} (hN : SmallX n N) (hX : TopP n N X) (hY : TopD n N Y) : ∀ i j, i < n → j < n → X i j = Y i j := by
  have hXD : GoodD n N X := ⟨hX.1.1, fun i j hi hj => ⟨(hX.1.2.1 i j hi hj).1, (hX.1.2.1 i j hi hj).2.2⟩, hX.back hN, hX.1.2.2⟩
  have hYP : GoodP n N Y := ⟨hY.1.1, fun i j hi hj => ⟨(hY.1.2.1 i j hi hj).1, (hY.1.2.2.1 i j hi hj).trans (back_mono (hY.1.2.1 j i hj hi).1), (hY.1.2.1 i j hi hj).2⟩, hY.1.2.2.2⟩
  intro i j hi hj
  exact sub_one (hX.1.1 i j hi hj) (hY.1.1 i j hi hj) (hY.2 X hXD i j hi hj) (hX.2 Y hYP i j hi hj)
/-- One place of a net, set anew. -/
def setX (X : Nat → Nat → Nat) (i j v : Nat) : Nat → Nat → Nat := fun a b => if a = i ∧ b = j then v else X a b
theorem setX_at (X : Nat → Nat → Nat) (i j v : Nat) : setX X i j v i j = v := by unfold setX; rw [if_pos ⟨rfl, rfl⟩]
theorem setX_off {X : Nat → Nat → Nat} {i j v a b : Nat} (h : ¬ (a = i ∧ b = j)) : setX X i j v a b = X a b := by unfold setX; rw [if_neg h]
/-- Nothing good has been left out. -/
def InvP (n : Nat) (N : Nat → Nat → Nat) (X : Nat → Nat → Nat) : Prop := SmallX n X ∧ InS n N X ∧ ∀ Z, GoodP n N Z → ∀ i j, i < n → j < n → Sub (Z i j) (X i j)
def InvD (n : Nat) (N : Nat → Nat → Nat) (X : Nat → Nat → Nat) : Prop := SmallX n X ∧ InD n N X ∧ ∀ Z, GoodD n N Z → ∀ i j, i < n → j < n → Sub (Z i j) (X i j)
theorem InvP.start {X : Nat → Nat → Nat} (hN : SmallX n N) (h : ∀ i j, i < n → j < n → X i j = if i = j then (N i j &&& backN (N j i)) &&& 64 else N i j &&& backN (N j i)) : InvP n N X := by
  refine ⟨fun i j hi hj => ?_, fun i j hi hj => ?_, fun Z hZ i j hi hj => ?_⟩
  · rw [h i j hi hj]; split
    · exact and_lt8 (and_lt8 (hN i j hi hj))
    · exact and_lt8 (hN i j hi hj)
  · rw [h i j hi hj]; split
    · exact ⟨(and_left _ _).trans (and_left _ _), (and_left _ _).trans (and_right _ _), fun _ => and_right _ _⟩
    · rename_i hne; exact ⟨and_left _ _, and_right _ _, fun e => absurd e hne⟩
  · obtain ⟨h1, h2, h3⟩ := hZ.2.1 i j hi hj
    rw [h i j hi hj]; split
    · rename_i e; exact sub_and (sub_and h1 h2) (h3 e)
    · exact sub_and h1 h2
theorem InvP.step {X : Nat → Nat → Nat} (h : InvP n N X) {i j k : Nat} (hi : i < n) (hj : j < n) (hk : k < n) : InvP n N (setX X i j (X i j &&& joinN (X i k) (X k j))) := by
  obtain ⟨h1, h2, h3⟩ := h
  refine ⟨fun a b ha hb => ?_, fun a b ha hb => ?_, fun Z hZ a b ha hb => ?_⟩
  · by_cases e : a = i ∧ b = j
    · obtain ⟨rfl, rfl⟩ := e; rw [setX_at]; exact and_lt8 (h1 _ _ ha hb)
    · rw [setX_off e]; exact h1 a b ha hb
  · by_cases e : a = i ∧ b = j
    · obtain ⟨rfl, rfl⟩ := e; rw [setX_at]
      exact ⟨(and_left _ _).trans (h2 _ _ ha hb).1, (and_left _ _).trans (h2 _ _ ha hb).2.1, fun e => (and_left _ _).trans ((h2 _ _ ha hb).2.2 e)⟩
    · rw [setX_off e]; exact h2 a b ha hb
  · by_cases e : a = i ∧ b = j
    · obtain ⟨rfl, rfl⟩ := e; rw [setX_at]
      exact sub_and (h3 Z hZ _ _ ha hb) ((hZ.2.2 _ _ k ha hb hk).trans (join_mono (h3 Z hZ _ _ ha hk) (h3 Z hZ _ _ hk hb)))
    · rw [setX_off e]; exact h3 Z hZ a b ha hb
theorem InvP.done {X : Nat → Nat → Nat} (h : InvP n N X) (hc : JClosed n X) : TopP n N X := ⟨⟨h.1, h.2.1, hc⟩, h.2.2⟩
theorem InvD.start {X : Nat → Nat → Nat} (hN : SmallX n N) (h : ∀ i j, i < n → j < n → X i j = if i = j then N i j &&& 64 else N i j) : InvD n N X := by
  refine ⟨fun i j hi hj => ?_, fun i j hi hj => ?_, fun Z hZ i j hi hj => ?_⟩
  · rw [h i j hi hj]; split
    · exact and_lt8 (hN i j hi hj)
    · exact hN i j hi hj
  · rw [h i j hi hj]; split
    · exact ⟨and_left _ _, fun _ => and_right _ _⟩
    · rename_i hne; exact ⟨Sub.rfl' _, fun e => absurd e hne⟩
  · obtain ⟨h1, h3⟩ := hZ.2.1 i j hi hj
    rw [h i j hi hj]; split
    · rename_i e; exact sub_and h1 (h3 e)
    · exact h1
/-- What a place may still be, of the first k thirds. -/
noncomputable def foldJ (X : Nat → Nat → Nat) (i j : Nat) : Nat → Nat
  | 0 => X i j &&& backN (X j i)
  | k + 1 => foldJ X i j k &&& joinN (X i k) (X k j)
theorem foldJ_le (X : Nat → Nat → Nat) (i j k : Nat) : Sub (foldJ X i j k) (X i j) ∧ foldJ X i j k ≤ X i j := by
  induction k with
  | zero => exact ⟨and_left _ _, Nat.and_le_left⟩
  | succ k ih => exact ⟨(and_left _ _).trans ih.1, Nat.le_trans Nat.and_le_left ih.2⟩
theorem foldJ_keep {X : Nat → Nat → Nat} {i j k : Nat} {z : Nat} (h0 : Sub z (X i j)) (h1 : Sub z (backN (X j i))) (h : ∀ m, m < k → Sub z (joinN (X i m) (X m j))) : Sub z (foldJ X i j k) := by
  induction k with
  | zero => exact sub_and h0 h1
  | succ k ih => exact sub_and (ih fun m hm => h m (by omega)) (h k (by omega))
theorem foldJ_same {X : Nat → Nat → Nat} {i j k : Nat} (h : foldJ X i j k = X i j) : Sub (X i j) (backN (X j i)) ∧ ∀ m, m < k → Sub (X i j) (joinN (X i m) (X m j)) := by
  induction k with
  | zero => exact ⟨sub_of_and h, fun m hm => absurd hm (Nat.not_lt_zero m)⟩
  | succ k ih =>
    have hle := (foldJ_le X i j k).2
    have h2 : foldJ X i j k &&& joinN (X i k) (X k j) ≤ foldJ X i j k := Nat.and_le_left
    have h3 : foldJ X i j (k + 1) = foldJ X i j k &&& joinN (X i k) (X k j) := rfl
    have e : foldJ X i j k = X i j := by omega
    obtain ⟨g1, g2⟩ := ih e
    refine ⟨g1, fun m hm => ?_⟩
    by_cases hmk : m = k
    · subst hmk
      rw [h3, e] at h
      exact sub_of_and h
    · exact g2 m (by omega)
theorem InvD.step {X : Nat → Nat → Nat} (h : InvD n N X) {i j : Nat} (hi : i < n) (hj : j < n) : InvD n N (setX X i j (foldJ X i j n)) := by
  obtain ⟨h1, h2, h3⟩ := h
  refine ⟨fun a b ha hb => ?_, fun a b ha hb => ?_, fun Z hZ a b ha hb => ?_⟩
  · by_cases e : a = i ∧ b = j
    · obtain ⟨rfl, rfl⟩ := e; rw [setX_at]; exact Nat.lt_of_le_of_lt (foldJ_le _ _ _ _).2 (h1 _ _ ha hb)
    · rw [setX_off e]; exact h1 a b ha hb
  · by_cases e : a = i ∧ b = j
    · obtain ⟨rfl, rfl⟩ := e; rw [setX_at]
      exact ⟨(foldJ_le _ _ _ _).1.trans (h2 _ _ ha hb).1, fun e => (foldJ_le _ _ _ _).1.trans ((h2 _ _ ha hb).2 e)⟩
    · rw [setX_off e]; exact h2 a b ha hb
  · by_cases e : a = i ∧ b = j
    · obtain ⟨rfl, rfl⟩ := e; rw [setX_at]
      exact foldJ_keep (h3 Z hZ _ _ ha hb) ((hZ.2.2.1 _ _ ha hb).trans (back_mono (h3 Z hZ _ _ hb ha))) fun m hm => (hZ.2.2.2 _ _ m ha hb hm).trans (join_mono (h3 Z hZ _ _ ha hm) (h3 Z hZ _ _ hm hb))
    · rw [setX_off e]; exact h3 Z hZ a b ha hb
theorem InvD.done {X : Nat → Nat → Nat} (h : InvD n N X) (hc : ∀ i j, i < n → j < n → foldJ X i j n = X i j) : TopD n N X :=
  ⟨⟨h.1, h.2.1, fun i j hi hj => (foldJ_same (hc i j hi hj)).1, fun i j k hi hj hk => (foldJ_same (hc i j hi hj)).2 k hk⟩, h.2.2⟩
/-- The sum of a net: a measure. -/
def sumRow (X : Nat → Nat → Nat) (i : Nat) : Nat → Nat
  | 0 => 0
  | k + 1 => sumRow X i k + X i k
def sumX (X : Nat → Nat → Nat) (n : Nat) : Nat → Nat
  | 0 => 0
  | k + 1 => sumX X n k + sumRow X k n
theorem sumRow_off {X : Nat → Nat → Nat} {i j v a : Nat} (h : a ≠ i) (k : Nat) : sumRow (setX X i j v) a k = sumRow X a k := by
  induction k with
  | zero => rfl
  | succ k ih => unfold sumRow; rw [ih, setX_off (by omega)]
theorem sumRow_set {X : Nat → Nat → Nat} {i j v : Nat} (k : Nat) : sumRow (setX X i j v) i k + (if j < k then X i j else 0) = sumRow X i k + (if j < k then v else 0) := by
  induction k with
  | zero => simp [sumRow]
  | succ k ih =>
    unfold sumRow
    by_cases e : j = k
    · subst e
      rw [setX_at]
      rw [if_neg (by omega), if_neg (by omega)] at ih
      rw [if_pos (by omega), if_pos (by omega)]
      omega
    · rw [setX_off (by omega)]
      by_cases h : j < k
      · rw [if_pos h, if_pos h] at ih
        rw [if_pos (by omega), if_pos (by omega)]
        omega
      · rw [if_neg h, if_neg h] at ih
        rw [if_neg (by omega), if_neg (by omega)]
        omega
theorem sumX_set {X : Nat → Nat → Nat} {i j v n : Nat} (hj : j < n) (k : Nat) : sumX (setX X i j v) n k + (if i < k then X i j else 0) = sumX X n k + (if i < k then v else 0) := by
  induction k with
  | zero => simp [sumX]
  | succ k ih =>
    unfold sumX
    by_cases e : i = k
    · subst e
      have h := sumRow_set (X := X) (i := i) (j := j) (v := v) n
      rw [if_pos hj, if_pos hj] at h
      rw [if_neg (by omega), if_neg (by omega)] at ih
      rw [if_pos (by omega), if_pos (by omega)]
      omega
    · rw [sumRow_off (by omega)]
      by_cases h : i < k
      · rw [if_pos h, if_pos h] at ih
        rw [if_pos (by omega), if_pos (by omega)]
        omega
      · rw [if_neg h, if_neg h] at ih
        rw [if_neg (by omega), if_neg (by omega)]
        omega
theorem sum_less {X : Nat → Nat → Nat} {i j v n : Nat} (hi : i < n) (hj : j < n) (h : v < X i j) : sumX (setX X i j v) n n < sumX X n n := by
  have := sumX_set (X := X) (i := i) (v := v) hj n
  rw [if_pos hi, if_pos hi] at this
  omega
end
/-- The first of some numbers that is not 0. -/
def firstE (f : Nat → Int) : Nat → Int
  | 0 => 0
  | k + 1 => if firstE f k ≠ 0 then firstE f k else f k
theorem firstE_zero {f : Nat → Int} {k : Nat} (h : ∀ i, i < k → f i = 0) : firstE f k = 0 := by
  induction k with
  | zero => rfl
  | succ k ih => unfold firstE; rw [if_neg (by simpa using ih fun i hi => h i (by omega))]; exact h k (by omega)
theorem firstE_hit {f : Nat → Int} {i : Nat} (h : ∀ j, j < i → f j = 0) (hf : f i ≠ 0) : ∀ k, i < k → firstE f k = f i := by
  intro k
  induction k with
  | zero => intro hk; omega
  | succ k ih =>
    intro hk
    unfold firstE
    by_cases e : i = k
    · subst e; rw [if_neg (by simpa using firstE_zero h)]
    · rw [ih (by omega), if_pos hf]
theorem firstE_all {f : Nat → Int} {k : Nat} (h : firstE f k = 0) : ∀ i, i < k → f i = 0 := by
  induction k with
  | zero => intro i hi; omega
  | succ k ih =>
    unfold firstE at h
    split at h
    · rename_i hne; exact absurd h hne
    · rename_i he
      simp only [ne_eq, Decidable.not_not] at he
      intro i hi
      by_cases e : i = k
      · subst e; exact h
      · exact ih he i (by omega)
end Go.Proofs.YtpmppgmnnnlonaaDoor
