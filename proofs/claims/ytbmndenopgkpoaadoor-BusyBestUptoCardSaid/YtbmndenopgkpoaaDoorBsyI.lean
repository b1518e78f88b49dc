/- Lists of numbers: plain; of the call's own; that came in. -/
import Derived.Test.YtbmndenopgkpoaaDoorMore
import Derived.Test.YtbmndenopgkpoaaDoorAppend
import Derived.Test.YtbmndenopgkpoaaDoorQTail
import Derived.Test.YtbmndenopgkpoaaDoorInts
import Derived.Lib.SlicesCompact
import Derived.Deep.CutRange
import Derived.Sort.OwnSortedInts
import Derived.Laws.OwnMore
import Derived.Laws.AppendOwnNone
import Derived.Deep.AppendLies
import Derived.Deep.Slices
import Derived.BigQuiet
import Derived.Deep.QuietTactic
import Derived.IntWalk
import Derived.BigCall
namespace Go.Proofs.YtbmndenopgkpoaaDoor
open Go.RowKit
namespace Wrk
/-- A number put into a list that rises. -/
def put : List Int → Int → List Int
  | [], n => [n]
  | a :: r, n => if a < n then a :: put r n else if a = n then a :: r else n :: a :: r
def Rises (l : List Int) : Prop := l.Pairwise (· < ·)
theorem put_mem (l : List Int) (n x : Int) : x ∈ put l n ↔ x = n ∨ x ∈ l := by
  induction l with
  | nil => simp [put]
  | cons a r ih =>
    unfold put
    split
    · simp only [List.mem_cons, ih]
      constructor
      · rintro (h | h | h)
        · exact .inr (.inl h)
        · exact .inl h
        · exact .inr (.inr h)
      · rintro (h | h | h)
        · exact .inr (.inl h)
        · exact .inl h
        · exact .inr (.inr h)
    · split
      · rename_i h; subst h; simp
      · simp
theorem put_rises {l : List Int} (h : Rises l) (n : Int) : Rises (put l n) := by
  induction l with
  | nil => exact List.pairwise_singleton _ _
  | cons a r ih =>
    obtain ⟨h1, h2⟩ := List.pairwise_cons.1 h
    unfold put
    split
    · rename_i hlt
      refine List.pairwise_cons.2 ⟨fun x hx => ?_, ih h2⟩
      rcases (put_mem r n x).1 hx with rfl | hx
      · exact hlt
      · exact h1 x hx
    · split
      · exact h
      · rename_i g1 g2
        have hna : n < a := by omega
        refine List.pairwise_cons.2 ⟨fun x hx => ?_, h⟩
        rcases List.mem_cons.1 hx with rfl | hx
        · exact hna
        · exact Int.lt_trans hna (h1 x hx)
theorem put_len (l : List Int) (n : Int) : (put l n).length ≤ l.length + 1 := by
  induction l with
  | nil => simp [put]
  | cons a r ih =>
    unfold put
    split
    · simp only [List.length_cons]; omega
    · split <;> simp
/-- Two lists that rise and have the same numbers are one. -/
theorem rises_one : ∀ {l m : List Int}, Rises l → Rises m → (∀ x, x ∈ l ↔ x ∈ m) → l = m := by
  intro l
  induction l with
  | nil =>
    intro m _ _ h
    cases m with
    | nil => rfl
    | cons b m => exact absurd ((h b).2 List.mem_cons_self) List.not_mem_nil
  | cons a l ih =>
    intro m h1 h2 h
    cases m with
    | nil => exact absurd ((h a).1 List.mem_cons_self) List.not_mem_nil
    | cons b m =>
      obtain ⟨p1, p2⟩ := List.pairwise_cons.1 h1
      obtain ⟨q1, q2⟩ := List.pairwise_cons.1 h2
      have hab : a = b := by
        have ha := (h a).1 List.mem_cons_self
        have hb := (h b).2 List.mem_cons_self
        rcases List.mem_cons.1 ha with e | ha
        · exact e
        · rcases List.mem_cons.1 hb with e | hb
          · exact e.symm
          · have := q1 a ha; have := p1 b hb; omega
      subst hab
      rw [ih p2 q2 fun x => ?_]
      constructor
      · intro hx
        rcases List.mem_cons.1 ((h x).1 (List.mem_cons_of_mem _ hx)) with e | hx2
        · have := p1 x hx; omega
        · exact hx2
      · intro hx
        rcases List.mem_cons.1 ((h x).2 (List.mem_cons_of_mem _ hx)) with e | hx2
        · have := q1 x hx; omega
        · exact hx2
theorem upTo_mem (d : Array Int) (hs : ∀ i j, i ≤ j → j < d.size → d[i]! ≤ d[j]!) : ∀ m, m ≤ d.size → Rises (Lib.compactUpTo d m) ∧ (∀ x, x ∈ Lib.compactUpTo d m ↔ ∃ i, i < m ∧ d[i]! = x) := by
  intro m
  induction m with
  | zero => intro _; exact ⟨List.Pairwise.nil, fun x => by simp [Lib.compactUpTo]⟩
  | succ m ih =>
    intro hm
    obtain ⟨h1, h2⟩ := ih (by omega)
    rw [Lib.compactUpTo_succ]
    by_cases h0 : m = 0
    · subst h0
      have : Lib.keeps d 0 = true := Lib.keeps_lt_one d 0 (by omega)
      rw [if_pos this]
      refine ⟨?_, fun x => ?_⟩
      · have : Lib.compactUpTo d 0 = [] := rfl
        rw [this]; exact List.pairwise_singleton _ _
      · have : Lib.compactUpTo d 0 = [] := rfl
        rw [this]
        simp only [List.nil_append, List.mem_singleton]
        exact ⟨fun h => ⟨0, by omega, h.symm⟩, fun ⟨i, hi, h⟩ => by obtain rfl : i = 0 := (by omega); exact h.symm⟩
    · have hle := hs (m - 1) m (by omega) (by omega)
      by_cases he : d[m]! = d[m - 1]!
      · rw [if_neg (by rw [Lib.keeps_neg (by omega) he]; decide), List.append_nil]
        refine ⟨h1, fun x => (h2 x).trans ⟨fun ⟨i, hi, h⟩ => ⟨i, by omega, h⟩, fun ⟨i, hi, h⟩ => ?_⟩⟩
        by_cases hi2 : i < m
        · exact ⟨i, hi2, h⟩
        · obtain rfl : i = m := by omega
          exact ⟨i - 1, by omega, by rw [← he]; exact h⟩
      · rw [if_pos (Lib.keeps_pos he)]
        refine ⟨List.pairwise_append.2 ⟨h1, List.pairwise_singleton _ _, fun a ha b hb => ?_⟩, fun x => ?_⟩
        · obtain ⟨i, hi, rfl⟩ := (h2 a).1 ha
          rw [List.mem_singleton] at hb
          subst hb
          have := hs i (m - 1) (by omega) (by omega)
          omega
        · rw [List.mem_append, List.mem_singleton, h2]
          constructor
          · rintro (⟨i, hi, h⟩ | h)
            · exact ⟨i, by omega, h⟩
            · exact ⟨m, by omega, h.symm⟩
          · rintro ⟨i, hi, h⟩
            by_cases hi2 : i < m
            · exact .inl ⟨i, hi2, h⟩
            · obtain rfl : i = m := by omega
              exact .inr h.symm
/-- Sorted, and each number once. -/
theorem sort_compact (zs : List Int) : Rises (Lib.compact (zs.mergeSort fun x y => decide (x ≤ y))) ∧ ∀ x, x ∈ Lib.compact (zs.mergeSort fun x y => decide (x ≤ y)) ↔ x ∈ zs := by
  have hp : (zs.mergeSort fun x y => decide (x ≤ y)).Pairwise (fun a b => decide (a ≤ b) = true) := List.pairwise_mergeSort (fun a b c h1 h2 => by simp at *; omega) (fun a b => by simp; omega) zs
  obtain ⟨l, hl⟩ : ∃ l, (zs.mergeSort fun x y => decide (x ≤ y)) = l := ⟨_, rfl⟩
  have hm : ∀ x, x ∈ l ↔ x ∈ zs := fun x => by rw [← hl]; exact List.mem_mergeSort
  rw [hl] at hp ⊢
  have hs : ∀ i j, i ≤ j → j < l.toArray.size → l.toArray[i]! ≤ l.toArray[j]! := by
    intro i j hij hj
    rw [List.size_toArray] at hj
    have hi : i < l.length := by omega
    simp only [List.getElem!_toArray, List.getElem!_eq_getElem?_getD, List.getElem?_eq_getElem hj, List.getElem?_eq_getElem hi, Option.getD_some]
    by_cases e : i = j
    · subst e; exact Int.le_refl _
    · have := List.pairwise_iff_getElem.1 hp i j hi hj (by omega)
      simpa using this
  obtain ⟨h1, h2⟩ := upTo_mem l.toArray hs l.length (by simp)
  refine ⟨h1, fun x => (h2 x).trans (Iff.trans ?_ (hm x))⟩
  constructor
  · rintro ⟨i, hi, h⟩
    simp only [List.getElem!_toArray, List.getElem!_eq_getElem?_getD, List.getElem?_eq_getElem hi, Option.getD_some] at h
    rw [← h]; exact List.getElem_mem hi
  · intro hx
    obtain ⟨i, hi, h⟩ := List.getElem_of_mem hx
    exact ⟨i, hi, by simp only [List.getElem!_toArray, List.getElem!_eq_getElem?_getD, List.getElem?_eq_getElem hi, Option.getD_some]; exact h⟩
/-! ### Holidays -/
theorem put_at (x : Int) : ∀ (l : List Int) (i : Nat), i ≤ l.length → (∀ j, j < i → l.getD j 0 < x) → (i < l.length → ¬ l.getD i 0 < x) → put l x = if i < l.length ∧ l.getD i 0 = x then l else l.take i ++ x :: l.drop i
  | [], i, h1, _, _ => by
    have : i = 0 := by simpa using h1
    subst this
    simp [put]
  | a :: r, 0, _, _, h3 => by
    have h4 : ¬ a < x := by simpa using h3 (by simp)
    unfold put
    rw [if_neg h4]
    simp
  | a :: r, i + 1, h1, h2, h3 => by
    have h4 : a < x := by simpa using h2 0 (by omega)
    have ih := put_at x r i (by simpa using h1) (fun j hj => by simpa using h2 (j + 1) (by omega)) (fun h => by simpa using h3 (by simpa using h))
    unfold put
    rw [if_pos h4, ih]
    simp only [List.length_cons, List.getD_cons_succ, List.take_succ_cons, List.drop_succ_cons, Nat.add_lt_add_iff_right]
    split <;> simp
theorem sort_rises {l : List Int} (h : l.Nodup) : Rises (l.mergeSort fun x y => decide (x ≤ y)) := by
  have h1 : (l.mergeSort fun x y => decide (x ≤ y)).Pairwise (fun x y => decide (x ≤ y) = true) := List.pairwise_mergeSort (fun a b c h1 h2 => by simp at h1 h2 ⊢; omega) (fun a b => by simp; omega) l
  have h2 : (l.mergeSort fun x y => decide (x ≤ y)).Nodup := (List.mergeSort_perm l _).nodup_iff.2 h
  unfold Rises
  refine (h1.and h2).imp ?_
  rintro a b ⟨g1, g2⟩
  have : a ≤ b := by simpa using g1
  omega
theorem sort_put {l : List Int} (h : l.Nodup) : l.foldl put [] = l.mergeSort fun x y => decide (x ≤ y) := by
  have hg : ∀ (l acc : List Int), Rises acc → Rises (l.foldl put acc) ∧ ∀ x, x ∈ l.foldl put acc ↔ x ∈ acc ∨ x ∈ l := by
    intro l
    induction l with
    | nil => intro acc h; exact ⟨h, fun x => by simp⟩
    | cons a l ih =>
      intro acc h
      obtain ⟨h1, h2⟩ := ih (put acc a) (put_rises h a)
      refine ⟨h1, fun x => ?_⟩
      rw [List.foldl_cons, h2, put_mem, List.mem_cons]
      constructor
      · rintro ((h | h) | h)
        · exact .inr (.inl h)
        · exact .inl h
        · exact .inr (.inr h)
      · rintro (h | h | h)
        · exact .inl (.inr h)
        · exact .inl (.inl h)
        · exact .inr h
  obtain ⟨h1, h2⟩ := hg l [] List.Pairwise.nil
  exact rises_one h1 (sort_rises h) fun x => by rw [h2, List.mem_mergeSort]; simp
end Wrk
open Wrk
theorem World.cells_one (w : World) (v : Value) (t : TypeId) : ∀ j u, [v][j]? = some u → (w.alloc (.cells #[v] t)).cell? ((⟨w.heap.size, 0, none⟩ : Addr).add j) = some u := by
  intro j u h
  have hj : j = 0 := by
    rcases j with _ | j
    · rfl
    · simp at h
  subst hj
  simp at h
  subst h
  simp [Addr.add]
def intV (l : List Int) : List Value := l.map (Value.int .i64)
theorem intV_snoc (l : List Int) (x : Int) : intV (l ++ [x]) = intV l ++ [.int .i64 x] := by simp [intV]
/-- A list of numbers of the call's own. -/
def IntL (w : World) (b : Nat) (v : Value) (l : List Int) : Prop := w.ownsRow b 3 1 v l.length (intV l)
theorem IntL.call {w w' : World} {b : Nat} {v : Value} {l : List Int} (h : IntL w b v l) (hb : Below w.heap.size w w') : IntL w' b v l :=
  World.ownsRow.kept (row := none) h ⟨hb.os, hb.tape, hb.output, hb.size, fun k hk _ => hb.block k hk⟩ (by cases hv : v.ownBlock <;> simp)
theorem IntL.nil (w : World) (b : Nat) : IntL w b (.slice none 0 0) [] := World.ownsRow_nil _ _ _ _
theorem IntL.form {w : World} {b : Nat} {v : Value} {l : List Int} (h : IntL w b v l) : ∃ oa cap, v = .slice oa l.length cap := by
  rcases h.2 with ⟨rfl, h0⟩ | ⟨g, cap, cur, rfl, _⟩
  · exact ⟨none, 0, by rw [h0]⟩
  · exact ⟨_, cap, rfl⟩
theorem IntL.at {w : World} {b : Nat} {oa : Option Addr} {n cap : Nat} {l : List Int} (h : IntL w b (.slice oa n cap) l) {k : Nat} (hk : k < l.length) :
    ∃ g, oa = some ⟨g, 0, none⟩ ∧ b ≤ g ∧ g < w.heap.size ∧ w.cell? ⟨g, k, none⟩ = some (.int .i64 (l.getD k 0)) ∧ w.frozen? ⟨g, k, none⟩ = false := by
  obtain ⟨g, c, e, hb, hg⟩ := World.ownsRow.form h (by omega)
  cases e
  have h1 := World.ownsRow.cells h (g := g) rfl k (.int .i64 (l.getD k 0)) (by simp [intV, List.getD, hk])
  rw [Addr.add_lit, Nat.zero_add] at h1
  exact ⟨g, rfl, hb, hg, h1, World.ownsRow.frozenAt h k⟩
theorem IntL.low {w : World} {b c : Nat} {v : Value} {l : List Int} (h : IntL w c v l) (hb : b ≤ c) : IntL w b v l := by
  refine ⟨h.1, ?_⟩
  rcases h.2 with h2 | ⟨g, cap, cur, h3, h4, h5⟩
  · exact .inl h2
  · exact .inr ⟨g, cap, cur, h3, Nat.le_trans hb h4, h5⟩
theorem IntL.one (w : World) {b : Nat} (hb : b ≤ w.heap.size) (x : Int) : IntL (w.alloc (.cells #[.int .i64 x] 3)) b (.slice (some ⟨w.heap.size, 0, none⟩) 1 1) [x] :=
  ⟨rfl, .inr ⟨w.heap.size, 1, #[.int .i64 x], rfl, hb, heap_alloc_new w _, Nat.le_refl _, by decide, rfl, rfl⟩⟩
theorem IntL.len {w : World} {b : Nat} {v : Value} {l : List Int} (h : IntL w b v l) : l.length ≤ maxLen := by
  rcases h.2 with ⟨_, h0⟩ | ⟨g, cap, cur, _, _, _, h1, h2, _⟩
  · omega
  · omega
set_option maxRecDepth 100000 in
set_option maxHeartbeats 4000000 in
theorem listI_same (v1 v2 : Value) (b1 b2 : Nat) (l : List Int) (w : World) (h1 : IntL w b1 v1 l) (h2 : IntL w b2 v2 l) :
    Calls Tryd.prog 11 #[v1, v2] w fun e w' => e = .returned (.bool true) ∧ Below w.heap.size w w' := by
  have hl := h1.len
  unfold maxLen at hl
  obtain ⟨o1, c1, rfl⟩ := h1.form
  obtain ⟨o2, c2, rfl⟩ := h2.form
  obtain ⟨n, hn⟩ : ∃ x, l.length = x := ⟨_, rfl⟩
  have HN := Lib.hid hn
  rw [hn] at hl h1 h2 ⊢
  have H1' := Lib.hid h1
  have H2' := Lib.hid h2
  clear h1 h2 hn
  have hnb : ((n : Int) != (n : Int)) = false := by simp
  go_enter Tryd.func11, Tryd.ntmps11
  go_wp2_with fail
  go_loopw [5] (fun c wr => ∃ k : Nat, c = .int .i64 (k : Int) ∧ k ≤ n ∧ Hid (Below w.heap.size w wr)) (fun c _ => n - (intOf c).toNat)
  case atStart => exact ⟨0, rfl, by omega, Lib.hid (Below.refl _ _)⟩
  case round =>
    obtain ⟨k, rfl, hk, HB⟩ := hrel
    by_cases hkn : k < n
    · obtain ⟨g1, rfl, -, -, p1, -⟩ := (H1'.out.call HB.out).at (show k < l.length by rw [HN.out]; exact hkn)
      obtain ⟨g2, rfl, -, -, p2, -⟩ := (H2'.out.call HB.out).at (show k < l.length by rw [HN.out]; exact hkn)
      obtain ⟨F, hF⟩ : ∃ x : Int, l.getD k 0 = x := ⟨_, rfl⟩
      rw [hF] at p1 p2
      have r1 := cell_regrown p1
      have r2 := cell_regrown p2
      have k1 : (0 : Int) ≤ (k : Int) := by omega
      have k2 : (k : Int) < (n : Int) := by omega
      clear hF p1 p2
      go_wp2_with fail
      refine wp_region_below (by kernel_rfl) (by kernel_rfl) ?_
      repeat (go_big_quiet_step (fail))
      refine wpQuiet_nil ?_
      intro w1 hb1
      have HB1 := Lib.hid (thenB HB.out hb1)
      clear hb1 r1 r2
      go_wp2_with fail
      go_roundw
      case rel => exact ⟨k + 1, by go_num, by omega, HB1⟩
      case measure => simp [intOf]; omega
    · go_wp2_with fail
      go_ret
      exact ⟨rfl, HB.out⟩
theorem mem_at {l : List Int} {x : Int} (h : x ∈ l) : ∃ i, i < l.length ∧ l.getD i 0 = x := by
  obtain ⟨i, hi, e⟩ := List.getElem_of_mem h
  exact ⟨i, hi, by rw [List.getD_eq_getElem?_getD, List.getElem?_eq_getElem hi]; exact e⟩
theorem at_mem {l : List Int} {k : Nat} (h : k < l.length) : l.getD k 0 ∈ l := by
  rw [List.getD_eq_getElem?_getD, List.getElem?_eq_getElem h]
  exact List.getElem_mem h
theorem add_block (a : Addr) (k : Nat) : (a.add k).block = a.block := by unfold Addr.add; split <;> rfl
/-- Numbers that lie somewhere. -/
def IntS (w : World) (v : Value) (l : List Int) : Prop := ∃ oa cap, v = .slice oa l.length cap ∧ (0 < l.length → ∃ a, oa = some a) ∧ ∀ a, oa = some a → (0 < l.length → a.block < w.heap.size) ∧ ∀ k, k < l.length → w.cell? (a.add k) = some (.int .i64 (l.getD k 0))
theorem IntS.call {w w' : World} {v : Value} {l : List Int} (h : IntS w v l) (hb : Below w.heap.size w w') : IntS w' v l := by
  obtain ⟨oa, cap, h1, h2, h3⟩ := h
  refine ⟨oa, cap, h1, h2, fun a ha => ⟨fun h0 => Nat.lt_of_lt_of_le ((h3 a ha).1 h0) hb.size, fun k hk => ?_⟩⟩
  exact (hb.cell (p := a.add k) (by rw [add_block]; exact (h3 a ha).1 (by omega))).trans ((h3 a ha).2 k hk)
theorem IntS.at {w : World} {oa : Option Addr} {n cap : Nat} {l : List Int} (h : IntS w (.slice oa n cap) l) {k : Nat} (hk : k < l.length) : ∃ a, oa = some a ∧ w.cell? (a.add k) = some (.int .i64 (l.getD k 0)) := by
  obtain ⟨oa', cap', e, h2, h3⟩ := h
  cases e
  obtain ⟨a, rfl⟩ := h2 (by omega)
  exact ⟨a, rfl, (h3 a rfl).2 k hk⟩
end Go.Proofs.YtbmndenopgkpoaaDoor
