/- Spans in memory; clip. -/
import Derived.Test.YtbmndenopgkpoaaDoorMomA
import Derived.Test.YtbmndenopgkpoaaDoorMore
import Derived.Test.YtbmndenopgkpoaaDoorAppend
import Derived.Test.YtbmndenopgkpoaaDoorQTail
import Derived.Deep.Slices
import Derived.Lib.Hide
import Derived.Laws.AppendOwnNone
namespace Go.Proofs.YtbmndenopgkpoaaDoor
open Go.RowKit
theorem ivAdd_block (a : Addr) (k : Nat) : (a.add k).block = a.block := by unfold Addr.add; split <;> rfl
def iv0 : Iv := (0, 0)
/-- Spans that lie somewhere. -/
def IvR (w : World) (ob : Option Addr) (l : List Iv) : Prop :=
  (0 < l.length → ∃ a, ob = some a) ∧ ∀ a, ob = some a → (0 < l.length → a.block < w.heap.size) ∧ ∀ k, k < l.length → w.cell? (a.add (k * 2)) = some (.int .i64 (l.getD k iv0).1) ∧ w.cell? (a.add (k * 2 + 1)) = some (.int .i64 (l.getD k iv0).2)
theorem IvR.call {w w' : World} {ob : Option Addr} {l : List Iv} (h : IvR w ob l) (hb : Below w.heap.size w w') : IvR w' ob l := by
  refine ⟨h.1, fun a ha => ?_⟩
  obtain ⟨h1, h2⟩ := h.2 a ha
  refine ⟨fun h => Nat.lt_of_lt_of_le (h1 h) hb.size, fun i hi => ?_⟩
  obtain ⟨h3, h4⟩ := h2 i hi
  have hl : a.block < w.heap.size := h1 (by omega)
  exact ⟨(hb.cell (p := a.add (i * 2)) (by rw [ivAdd_block]; exact hl)).trans h3, (hb.cell (p := a.add (i * 2 + 1)) (by rw [ivAdd_block]; exact hl)).trans h4⟩
theorem IvR.at {w : World} {b : Addr} {l : List Iv} (h : IvR w (some b) l) {i : Nat} (hi : i < l.length) : w.cell? (b.add (i * 2)) = some (.int .i64 (l.getD i iv0).1) ∧ w.cell? { block := (b.add (i * 2)).block, off := (b.add (i * 2)).off + 1 } = some (.int .i64 (l.getD i iv0).2) := by
  obtain ⟨h1, h2⟩ := (h.2 b rfl).2 i hi
  refine ⟨h1, ?_⟩
  have e : b.add (i * 2 + 1) = (b.add (i * 2)).add 1 := (Go.Deep.add_add b (i * 2) 1).symm
  rw [e] at h2
  exact h2
def ivV (l : List Iv) : List Value := l.flatMap fun p => [.int .i64 p.1, .int .i64 p.2]
theorem ivV_append (l m : List Iv) : ivV (l ++ m) = ivV l ++ ivV m := by simp [ivV]
theorem ivV_len (l : List Iv) : (ivV l).length = l.length * 2 := by
  induction l with
  | nil => rfl
  | cons p l ih => rw [show p :: l = [p] ++ l from rfl, ivV_append, List.length_append, ih, List.length_append]; simp [ivV]; omega
theorem ivV_at : ∀ (l : List Iv) (k : Nat), k < l.length → (ivV l)[k * 2]? = some (.int .i64 (l.getD k iv0).1) ∧ (ivV l)[k * 2 + 1]? = some (.int .i64 (l.getD k iv0).2) := by
  intro l
  induction l with
  | nil => intro k hk; exact absurd hk (Nat.not_lt_zero k)
  | cons p l ih =>
    intro k hk
    have e : ivV (p :: l) = .int .i64 p.1 :: .int .i64 p.2 :: ivV l := rfl
    rw [e]
    cases k with
    | zero => exact ⟨rfl, rfl⟩
    | succ k =>
      rw [show (k + 1) * 2 = k * 2 + 1 + 1 by omega, List.getElem?_cons_succ, List.getElem?_cons_succ, List.getElem?_cons_succ, List.getElem?_cons_succ]
      exact ih k (by simpa using hk)
/-- Spans of a slice. -/
def IvS (w : World) (v : Value) (l : List Iv) : Prop := ∃ ob cap, v = .slice ob l.length cap ∧ (ob = none → l = [] ∧ cap = 0) ∧ IvR w ob l
theorem IvS.call {w w' : World} {v : Value} {l : List Iv} (h : IvS w v l) (hb : Below w.heap.size w w') : IvS w' v l := by
  obtain ⟨ob, cap, h1, h3, h2⟩ := h
  exact ⟨ob, cap, h1, h3, h2.call hb⟩
theorem IvS.own {w : World} {b : Nat} {v : Value} {l : List Iv} (h8 : w.ownsRow b 55 2 v l.length (ivV l)) : IvS w v l := by
  have hlt := h8.lt
  have hcells := fun (g : Nat) (hg : v.ownBlock = some g) => h8.cells hg
  rcases h8.2 with ⟨rfl, h0⟩ | ⟨g, cap, cur, rfl, hb, hh, hc1, hc2, _⟩
  · exact ⟨none, 0, by rw [h0], fun _ => ⟨List.length_eq_zero_iff.1 h0, rfl⟩, fun h => absurd h (by omega), fun a h => by cases h⟩
  · refine ⟨some ⟨g, 0, none⟩, cap, rfl, (fun h => by cases h), fun _ => ⟨_, rfl⟩, fun a ha => ?_⟩
    injection ha with ha
    subst ha
    refine ⟨fun _ => (hlt g rfl).2, fun k hk => ?_⟩
    obtain ⟨e1, e2⟩ := ivV_at l k hk
    exact ⟨hcells g rfl _ _ e1, hcells g rfl _ _ e2⟩
theorem IvS.nil (w : World) : IvS w (.slice none 0 0) [] := ⟨none, 0, rfl, fun _ => ⟨rfl, rfl⟩, fun h => absurd h (Nat.lt_irrefl 0), fun a h => by cases h⟩
theorem ivOwn_call {w w' : World} {b : Nat} {e : TypeId} {z : Nat} {v : Value} {n : Nat} {xs : List Value} (h : w.ownsRow b e z v n xs) (hb : Below w.heap.size w w') : w'.ownsRow b e z v n xs :=
  h.kept (row := none) ⟨hb.os, hb.tape, hb.output, hb.size, fun k hk _ => hb.block k hk⟩ (by cases hv : v.ownBlock <;> simp)
theorem ivV_one (l : List Iv) : ∀ u, u ∈ ivV l → u.oneCell' = true := by
  intro u hu
  obtain ⟨p, _, hp⟩ := List.mem_flatMap.1 hu
  simp only [List.mem_cons, List.not_mem_nil, or_false] at hp
  rcases hp with rfl | rfl <;> rfl
/-- The spans to be appended. -/
theorem IvS.news {w : World} {v : Value} {l : List Iv} (h : IvS w v l) : (v = .slice none 0 0 ∧ l.length = 0 ∧ ivV l = []) ∨ ∃ ad c, v = .slice (some ad) l.length c ∧ (ivV l).length = l.length * 2 ∧ (∀ j u, (ivV l)[j]? = some u → w.cell? (ad.add j) = some u) ∧ ∀ u ∈ ivV l, u.oneCell' = true := by
  obtain ⟨ob, cap, h1, h2, h3⟩ := h
  cases ob with
  | none =>
    obtain ⟨rfl, rfl⟩ := h2 rfl
    exact .inl ⟨h1, rfl, rfl⟩
  | some ad =>
    refine .inr ⟨ad, cap, h1, ivV_len l, fun j u hj => ?_, ivV_one l⟩
    have hjl : j < l.length * 2 := by rw [← ivV_len]; exact (List.getElem?_eq_some_iff.1 hj).1
    obtain ⟨g1, g2⟩ := (h3.2 ad rfl).2 (j / 2) (by omega)
    obtain ⟨e1, e2⟩ := ivV_at l (j / 2) (by omega)
    rcases Nat.mod_two_eq_zero_or_one j with e | e
    · have hj2 : j / 2 * 2 = j := by omega
      rw [hj2] at g1 e1
      rw [g1, ← e1, hj]
    · have hj2 : j / 2 * 2 + 1 = j := by omega
      rw [hj2] at g2 e2
      rw [g2, ← e2, hj]
/-- append of a row that may be empty. -/
theorem wpList_append_anyM {P : Program} {w : World} {ops : Array Oper} {rest : List Oper} {o : Oper} {a : Act} {Q : Exit → Act → World → Prop} (hgd : o.guard = none) (s x : Operand) (t : TypeId)
    (ho : o.op = .call { callee := .builtin .append, args := #[s, x], argTypes := #[t, t] })
    (base : Nat) (e : TypeId) (i : TypeInfo) (z : Value) (size bytes : Nat) (ht : P.underlying t = some (.slice e)) (hi : P.info? e = some i) (hz : i.zero = some z)
    (hsize : i.size = size) (hby : i.bytes = bytes) (hzs : z.cells.size = size) (hsz : 0 < size)
    (v : Value) (n : Nat) (xs : List Value) (hs : a.eval s = v) (hown : w.ownsRow base e size v n xs)
    (xv : Value) (m : Nat) (news : List Value) (hx : a.eval x = xv)
    (hxv : (xv = .slice none 0 0 ∧ m = 0 ∧ news = []) ∨ ∃ ad c, xv = .slice (some ad) m c ∧ news.length = m * size ∧ (∀ j u, news[j]? = some u → w.cell? (ad.add j) = some u) ∧ ∀ u ∈ news, u.oneCell' = true)
    (h63 : n + m ≤ maxLen) (hbytes : (n + m) * bytes ≤ 140737488355328) (hbase : base ≤ w.heap.size)
    (h : ∀ v' w', w'.ownsRow base e size v' (n + m) (xs ++ news) → w.grownBy w' v.ownBlock → wpList P ops Q rest (a.put o.dst v') w') : wpList P ops Q (o :: rest) a w := by
  rcases hxv with ⟨h1, rfl, rfl⟩ | ⟨ad, c, h1, h2, h3, h4⟩
  · exact wpList_append_own_none hgd s x t ho base e i size ht hi v n xs hs hown (hx.trans h1) (h v w (by simpa using hown) ⟨rfl, rfl, rfl, Nat.le_refl _, fun _ _ _ => rfl⟩)
  · exact wpList_append_own w hgd s x t ho base e i z size bytes ht hi hz hsize hby hzs hsz v n xs hs hown ad m c news (hx.trans h1) h2 h3 h4 h63 hbytes hbase fun v' w' a b _ => h v' w' a b
theorem span_info2 : (Tryd.prog.info? 55).map (fun i => (i.zero, i.size, i.bytes)) = some (some (.agg #[.int .i64 0, .int .i64 0]), 2, 16) := by kernel_rfl
theorem ret1m {a b : Int} (h : a = b) : Ending.returned (.int .i64 a) = .returned (.int .i64 b) := by rw [h]
set_option maxRecDepth 100000 in
set_option maxHeartbeats 400000 in
theorem clip_any (n : Int) (w : World) : Calls Tryd.prog 27 #[.int .i64 n] w fun e w' => e = .returned (.int .i64 (clipM n)) ∧ w' = w := by
  by_cases h1 : n < -1152921504606846976
  · have e : clipM n = -1152921504606846976 := by unfold clipM loM hiM; omega
    rw [e]
    clear e
    go_enter Tryd.func27, Tryd.ntmps27
    go_wp2_with fail
    go_ret
    exact ⟨rfl, rfl⟩
  · by_cases h2 : 1152921504606846976 < n
    · have e : clipM n = 1152921504606846976 := by unfold clipM loM hiM; omega
      rw [e]
      clear e
      go_enter Tryd.func27, Tryd.ntmps27
      go_wp2_with fail
      go_ret
      exact ⟨rfl, rfl⟩
    · have e : clipM n = n := by unfold clipM loM hiM; omega
      rw [e]
      clear e
      go_enter Tryd.func27, Tryd.ntmps27
      go_wp2_with fail
      go_ret
      exact ⟨rfl, rfl⟩
/-- How spans are ordered. -/
def cfIv (x y : Iv) : Int := if x.1 < y.1 then -1 else if y.1 < x.1 then 1 else 0
def encIv (x : Iv) : List Value := [.int .i64 x.1, .int .i64 x.2]
theorem cfIv_lt (x y : Iv) : (cfIv x y < 0 ↔ x.1 < y.1) := by
  unfold cfIv
  by_cases h1 : x.1 < y.1
  · rw [if_pos h1]; simp [h1]
  · rw [if_neg h1]; split <;> simp [h1]
set_option maxHeartbeats 1000000 in
theorem of1_any (x y : Iv) (w : World) : Calls Tryd.prog 29 #[.agg #[.int .i64 x.1, .int .i64 x.2], .agg #[.int .i64 y.1, .int .i64 y.2]] w fun e w' => e = .returned (.int .i64 (cfIv x y)) ∧ w' = (w.alloc (.cells #[.int .i64 x.1, .int .i64 x.2] 55)).alloc (.cells #[.int .i64 y.1, .int .i64 y.2] 55) := by
  obtain ⟨a, b⟩ := x
  obtain ⟨c, d⟩ := y
  unfold cfIv
  by_cases h1 : a < c
  · rw [if_pos h1]
    have d1 : decide (a < c) = true := decide_eq_true h1
    clear h1
    go_enter Tryd.func29, Tryd.ntmps29
    go_wp2_with fail
    go_ret
    exact ⟨rfl, rfl⟩
  · rw [if_neg h1]
    have d1 : decide (a < c) = false := decide_eq_false h1
    by_cases h2 : c < a
    · rw [if_pos h2]
      have d2 : decide (c < a) = true := decide_eq_true h2
      clear h1 h2
      go_enter Tryd.func29, Tryd.ntmps29
      go_wp2_with fail
      go_ret
      exact ⟨rfl, rfl⟩
    · rw [if_neg h2]
      have d2 : decide (c < a) = false := decide_eq_false h2
      clear h1 h2
      go_enter Tryd.func29, Tryd.ntmps29
      go_wp2_with fail
      go_ret
      exact ⟨rfl, rfl⟩
end Go.Proofs.YtbmndenopgkpoaaDoor
