/- Rows of the call's own whose elements hold slices. -/
import Derived.Test.YtidgahnamdhflaaDoorPsxE
import Derived.Deep.AppendLies
namespace Go.Proofs.YtidgahnamdhflaaDoor
open Go.RowKit Go.Shelf Fld Prt Psx
theorem flat_get {α : Type} {C : α → List Value} {z : Nat} (hC : ∀ a, (C a).length = z) : ∀ (l : List α) (i j : Nat) (a : α), l[i]? = some a → j < z → (l.flatMap C)[i * z + j]? = (C a)[j]? := by
  intro l
  induction l with
  | nil => intro i j a h; simp at h
  | cons b l ih =>
    intro i j a h hj
    cases i with
    | zero =>
      simp at h
      subst h
      rw [List.flatMap_cons, List.getElem?_append_left (by rw [hC]; omega)]
      congr 1
      omega
    | succ i =>
      simp at h
      rw [List.flatMap_cons, List.getElem?_append_right (by rw [hC, Nat.succ_mul]; omega), hC, ← ih i j a h hj]
      congr 1
      rw [Nat.succ_mul]; omega
theorem own_form {w : World} {base : Nat} {e : TypeId} {size : Nat} {v : Value} {n : Nat} {xs : List Value} (h : World.ownsRow w base e size v n xs) : ∃ oa cap, v = .slice oa n cap := by
  rcases h.2 with ⟨rfl, rfl⟩ | ⟨g, cap, cur, rfl, _⟩
  · exact ⟨none, 0, rfl⟩
  · exact ⟨_, cap, rfl⟩
/-- Blocks from lo on that are not the row's own. -/
def SetB (lo : Nat) (v : Value) (x : World) (b : Nat) : Prop := lo ≤ b ∧ b < x.heap.size ∧ v.ownBlock ≠ some b
def KeepQ {α : Type} (Q : (Nat → Prop) → World → α → Prop) : Prop := ∀ (S S' : Nat → Prop) (w w' : World) (a : α), Q S w a → (∀ b, S b → S' b ∧ w'.heap[b]? = w.heap[b]?) → Q S' w' a
def RowQ {α : Type} (Q : (Nat → Prop) → World → α → Prop) (C : α → List Value) (E : TypeId) (z lo : Nat) (x : World) (v : Value) (l : List α) : Prop :=
  World.ownsRow x lo E z v l.length (l.flatMap C) ∧ ∀ a, a ∈ l → Q (SetB lo v x) x a
section
variable {α : Type} {Q : (Nat → Prop) → World → α → Prop} {C : α → List Value} {E : TypeId} {z lo : Nat} {x x' : World} {v : Value} {l : List α}
theorem RowQ.nil : RowQ Q C E z lo x (.slice none 0 0) [] := ⟨World.ownsRow_nil _ _ _ _, fun a h => by cases h⟩
theorem RowQ.call (hQ : KeepQ Q) (h : RowQ Q C E z lo x v l) (hb : Below x.heap.size x x') : RowQ Q C E z lo x' v l :=
  ⟨row_call h.1 hb, fun a ha => hQ _ _ _ _ a (h.2 a ha) fun b hb2 => ⟨⟨hb2.1, Nat.lt_of_lt_of_le hb2.2.1 hb.size, hb2.2.2⟩, hb.block b hb2.2.1⟩⟩
theorem RowQ.far (hQ : KeepQ Q) (h : RowQ Q C E z lo x v l) {p : Addr} (hp : p.block < lo) (u : Value) : RowQ Q C E z lo (x.setCell p u) v l :=
  ⟨row_far h.1 (fun k hk => by have := (World.ownsRow.lt h.1 k hk).1; omega) u, fun a ha => hQ _ _ _ _ a (h.2 a ha) fun b hb2 => ⟨⟨hb2.1, by simpa [World.setCell] using hb2.2.1, hb2.2.2⟩, Below.heap_setCell x p u b (fun e => by have := hb2.1; omega)⟩⟩
theorem RowQ.more (hQ : KeepQ Q) {x3 : World} {a : α} {g cap : Nat} (h : RowQ Q C E z lo x v l) (hown : World.ownsRow x3 lo E z (.slice (some ⟨g, 0, none⟩) (l.length + 1) cap) (l.length + 1) (l.flatMap C ++ C a)) (hg : x.grownBy x3 v.ownBlock) (hat : v.ownBlock = some g ∨ g = x.heap.size) (ha : Q (SetB lo v x) x a) : RowQ Q C E z lo x3 (.slice (some ⟨g, 0, none⟩) (l.length + 1) cap) (l ++ [a]) := by
  have hk : ∀ b, SetB lo v x b → SetB lo (.slice (some ⟨g, 0, none⟩) (l.length + 1) cap) x3 b ∧ x3.heap[b]? = x.heap[b]? := fun b hb => by
    refine ⟨⟨hb.1, Nat.lt_of_lt_of_le hb.2.1 hg.size, fun e => ?_⟩, hg.block b hb.2.1 (fun e => hb.2.2 e.symm)⟩
    have e2 : g = b := Option.some.inj e
    subst e2
    rcases hat with h1 | h1
    · exact hb.2.2 h1
    · have := hb.2.1; omega
  refine ⟨?_, fun b hb => ?_⟩
  · rw [List.length_append, List.length_singleton, List.flatMap_append, List.flatMap_singleton]
    exact hown
  · rcases List.mem_append.1 hb with hb | hb
    · exact hQ _ _ _ _ b (h.2 b hb) hk
    · rw [List.mem_singleton] at hb
      subst hb
      exact hQ _ _ _ _ b ha hk
theorem RowQ.form (h : RowQ Q C E z lo x v l) : ∃ oa cap, v = .slice oa l.length cap := own_form h.1
theorem RowQ.get (hC : ∀ a, (C a).length = z) {g cap : Nat} (h : RowQ Q C E z lo x (.slice (some ⟨g, 0, none⟩) l.length cap) l) {i j : Nat} (hi : i < l.length) (hj : j < z) (u : Value) (hu : (C l[i])[j]? = some u) : x.cell? ⟨g, i * z + j, none⟩ = some u := by
  have hc := World.ownsRow.cells h.1 (g := g) rfl (i * z + j) u ((flat_get hC l i j _ (List.getElem?_eq_getElem hi) hj).trans hu)
  rwa [Addr.add_lit, Nat.zero_add] at hc
end
theorem getD_fst {α β : Type} (l : List (α × β)) (i : Nat) (d : α) (hi : i < l.length) : (l.map Prod.fst).getD i d = l[i].1 := by simp [List.getD, hi]
def cPrm (a : Prm × Value) : List Value := [.string a.1.name, a.2]
def qPrm (S : Nat → Prop) (w : World) (a : Prm × Value) : Prop := QStr S w a.2 a.1.vals
theorem qPrm_keep : KeepQ qPrm := fun _ _ _ _ _ h hk => QStr.keep h hk
def cLn (a : Ln × Value) : List Value := [.string a.1.name, a.2, .string a.1.value]
def qLn (S : Nat → Prop) (w : World) (a : Ln × Value) : Prop := QPrm S w a.2 a.1.prms
theorem qLn_keep : KeepQ qLn := fun _ _ _ _ _ h hk => QPrm.keep h hk
def cPart (a : Part × Value × Value) : List Value := [.string a.1.name, a.2.1, a.2.2]
def qPart (k : Nat) (S : Nat → Prop) (w : World) (a : Part × Value × Value) : Prop := QPart S k w a.2.1 a.2.2 a.1
theorem qPart_keep (k : Nat) : KeepQ (qPart k) := fun _ _ _ _ _ h hk => QPart.keep h hk
theorem cPrm_len (a : Prm × Value) : (cPrm a).length = 2 := rfl
theorem cLn_len (a : Ln × Value) : (cLn a).length = 3 := rfl
theorem cPart_len (a : Part × Value × Value) : (cPart a).length = 3 := rfl
theorem RowQ.prm {E : TypeId} {lo : Nat} {x : World} {v : Value} {l : List (Prm × Value)} {S : Nat → Prop} (h : RowQ qPrm cPrm E 2 lo x v l) (hS : ∀ b, lo ≤ b → b < x.heap.size → S b) : QPrm S x v (l.map Prod.fst) := by
  obtain ⟨oa, cap, rfl⟩ := h.form
  refine ⟨oa, cap, by rw [List.length_map], fun h0 => ?_, fun a ha h0 => ?_⟩
  · rw [List.length_map] at h0
    obtain ⟨g, c, e, _⟩ := World.ownsRow.form h.1 h0
    injection e with e
    exact ⟨_, e⟩
  · rw [List.length_map] at h0
    subst ha
    obtain ⟨g, c, e, g1, g2⟩ := World.ownsRow.form h.1 h0
    injection e with e
    injection e with e
    subst e
    refine ⟨⟨hS g g1 g2, rfl⟩, fun i hi => ?_⟩
    rw [List.length_map] at hi
    rw [getD_fst _ _ _ hi]
    have k0 := h.get cPrm_len hi (j := 0) (by decide) (.string l[i].1.name) rfl
    have k1 := h.get cPrm_len hi (j := 1) (by decide) l[i].2 rfl
    simp only [Addr.add_lit, Nat.zero_add, Nat.add_zero] at k0 k1 ⊢
    exact ⟨k0, l[i].2, k1, QStr.keep (h.2 _ (List.getElem_mem hi)) fun b hb => ⟨hS b hb.1 hb.2.1, rfl⟩⟩
theorem RowQ.ln {E : TypeId} {lo : Nat} {x : World} {v : Value} {l : List (Ln × Value)} {S : Nat → Prop} (h : RowQ qLn cLn E 3 lo x v l) (hS : ∀ b, lo ≤ b → b < x.heap.size → S b) : QLn S x v (l.map Prod.fst) := by
  obtain ⟨oa, cap, rfl⟩ := h.form
  refine ⟨oa, cap, by rw [List.length_map], fun h0 => ?_, fun a ha h0 => ?_⟩
  · rw [List.length_map] at h0
    obtain ⟨g, c, e, _⟩ := World.ownsRow.form h.1 h0
    injection e with e
    exact ⟨_, e⟩
  · rw [List.length_map] at h0
    subst ha
    obtain ⟨g, c, e, g1, g2⟩ := World.ownsRow.form h.1 h0
    injection e with e
    injection e with e
    subst e
    refine ⟨⟨hS g g1 g2, rfl⟩, fun i hi => ?_⟩
    rw [List.length_map] at hi
    rw [getD_fst _ _ _ hi]
    have k0 := h.get cLn_len hi (j := 0) (by decide) (.string l[i].1.name) rfl
    have k1 := h.get cLn_len hi (j := 1) (by decide) l[i].2 rfl
    have k2 := h.get cLn_len hi (j := 2) (by decide) (.string l[i].1.value) rfl
    simp only [Addr.add_lit, Nat.zero_add, Nat.add_zero] at k0 k1 k2 ⊢
    exact ⟨k0, ⟨l[i].2, k1, QPrm.keep (h.2 _ (List.getElem_mem hi)) fun b hb => ⟨hS b hb.1 hb.2.1, rfl⟩⟩, k2⟩
theorem RowQ.part {E : TypeId} {lo k : Nat} {x : World} {u v : Value} {nm : ByteArray} {ls : List Ln} {l : List (Part × Value × Value)} {S : Nat → Prop} (h0 : QLn S x u ls) (h : RowQ (qPart k) cPart E 3 lo x v l) (hS : ∀ b, lo ≤ b → b < x.heap.size → S b) : QPart S (k + 1) x u v (.mk nm ls (l.map Prod.fst)) := by
  obtain ⟨oa, cap, rfl⟩ := h.form
  refine ⟨h0, oa, cap, by show _ = Value.slice oa (l.map Prod.fst).length cap; rw [List.length_map], fun h0 => ?_, fun a ha h0 => ?_⟩
  · replace h0 : 0 < (l.map Prod.fst).length := h0
    rw [List.length_map] at h0
    obtain ⟨g, c, e, _⟩ := World.ownsRow.form h.1 h0
    injection e with e
    exact ⟨_, e⟩
  · replace h0 : 0 < (l.map Prod.fst).length := h0
    rw [List.length_map] at h0
    subst ha
    obtain ⟨g, c, e, g1, g2⟩ := World.ownsRow.form h.1 h0
    injection e with e
    injection e with e
    subst e
    refine ⟨⟨hS g g1 g2, rfl⟩, fun i hi => ?_⟩
    replace hi : i < (l.map Prod.fst).length := hi
    rw [List.length_map] at hi
    show x.cell? _ = some (.string ((l.map Prod.fst).getD i part0).name) ∧ ∃ u2 v2, x.cell? _ = some u2 ∧ x.cell? _ = some v2 ∧ QPart S k x u2 v2 ((l.map Prod.fst).getD i part0)
    rw [getD_fst _ _ _ hi]
    have k0 := h.get cPart_len hi (j := 0) (by decide) (.string l[i].1.name) rfl
    have k1 := h.get cPart_len hi (j := 1) (by decide) l[i].2.1 rfl
    have k2 := h.get cPart_len hi (j := 2) (by decide) l[i].2.2 rfl
    simp only [Addr.add_lit, Nat.zero_add, Nat.add_zero] at k0 k1 k2 ⊢
    exact ⟨k0, l[i].2.1, l[i].2.2, k1, k2, QPart.keep (h.2 _ (List.getElem_mem hi)) fun b hb => ⟨hS b hb.1 hb.2.1, rfl⟩⟩
theorem QStr.form {S : Nat → Prop} {w : World} {v : Value} {L : List ByteArray} (h : QStr S w v L) : ∃ oa n cap, v = .slice oa n cap := by
  obtain ⟨oa, cap, h1, _⟩ := h; exact ⟨oa, _, cap, h1⟩
theorem QPrm.form {S : Nat → Prop} {w : World} {v : Value} {L : List Prm} (h : QPrm S w v L) : ∃ oa cap, v = .slice oa L.length cap := by
  obtain ⟨oa, cap, h1, _⟩ := h; exact ⟨oa, cap, h1⟩
end Go.Proofs.YtidgahnamdhflaaDoor
