/- Lists of the document's sets and rooms; plain laws of its Find. -/
import Derived.Test.YtbmndenopgkpoaaDoorBsyQ
import Derived.Test.YtbmndenopgkpoaaDoorBsyO
import Derived.Test.YtbmndenopgkpoaaDoorBsyF
namespace Go.Proofs.YtbmndenopgkpoaaDoor
open Go.RowKit Wrk Go.Shelf
/-- A list of the document's sets. -/
def SetsR (w : World) (v : Value) (Ls : List (List Iv)) : Prop := ∃ ob cap, v = .slice ob Ls.length cap ∧ (0 < Ls.length → ∃ a, ob = some a) ∧ ∀ a, ob = some a → (0 < Ls.length → a.block < w.heap.size) ∧ ∀ k, k < Ls.length → ∃ u, w.cell? (a.add k) = some u ∧ IvL w 0 u (Ls.getD k [])
theorem SetsR.call {w w' : World} {v : Value} {Ls : List (List Iv)} (h : SetsR w v Ls) (hb : Below w.heap.size w w') : SetsR w' v Ls := by
  obtain ⟨ob, cap, h1, h2, h3⟩ := h
  refine ⟨ob, cap, h1, h2, fun a ha => ⟨fun h0 => Nat.lt_of_lt_of_le ((h3 a ha).1 h0) hb.size, fun k hk => ?_⟩⟩
  obtain ⟨u, g1, g2⟩ := (h3 a ha).2 k hk
  exact ⟨u, (hb.cell (p := a.add k) (by rw [ivAdd_block]; exact (h3 a ha).1 (by omega))).trans g1, g2.call hb⟩
theorem SetsR.form {w : World} {v : Value} {Ls : List (List Iv)} (h : SetsR w v Ls) : ∃ ob cap, v = .slice ob Ls.length cap := by
  obtain ⟨ob, cap, h1, _⟩ := h; exact ⟨ob, cap, h1⟩
theorem SetsR.at {w : World} {ob : Option Addr} {n cap : Nat} {Ls : List (List Iv)} (h : SetsR w (.slice ob n cap) Ls) {k : Nat} (hk : k < Ls.length) : ∃ a oc c, ob = some a ∧ w.cell? (a.add k) = some (.slice oc (Ls.getD k []).length c) ∧ IvL w 0 (.slice oc (Ls.getD k []).length c) (Ls.getD k []) := by
  obtain ⟨ob', c', h1, h2, h3⟩ := h
  cases h1
  obtain ⟨a, rfl⟩ := h2 (by omega)
  obtain ⟨u, g1, g2⟩ := (h3 a rfl).2 k hk
  obtain ⟨oc, c, rfl⟩ := g2.form
  exact ⟨a, oc, c, rfl, g1, g2⟩
/-- A list of the document's rooms. -/
def RoomsR (w : World) (v : Value) (Rs : List Rm) : Prop := ∃ ob cap, v = .slice ob Rs.length cap ∧ (0 < Rs.length → ∃ a, ob = some a) ∧ ∀ a, ob = some a → (0 < Rs.length → a.block < w.heap.size) ∧ ∀ k, k < Rs.length → w.cell? (a.add (k * 2)) = some (.int .i64 (Rs.getD k rm0).1) ∧ ∃ u, w.cell? { block := (a.add (k * 2)).block, off := (a.add (k * 2)).off + 1 } = some u ∧ IvL w 0 u (Rs.getD k rm0).2
theorem RoomsR.call {w w' : World} {v : Value} {Rs : List Rm} (h : RoomsR w v Rs) (hb : Below w.heap.size w w') : RoomsR w' v Rs := by
  obtain ⟨ob, cap, h1, h2, h3⟩ := h
  refine ⟨ob, cap, h1, h2, fun a ha => ⟨fun h0 => Nat.lt_of_lt_of_le ((h3 a ha).1 h0) hb.size, fun k hk => ?_⟩⟩
  obtain ⟨g0, u, g1, g2⟩ := (h3 a ha).2 k hk
  have hlt := (h3 a ha).1 (by omega)
  exact ⟨(hb.cell (p := a.add (k * 2)) (by rw [ivAdd_block]; exact hlt)).trans g0, u, (hb.cell (p := { block := (a.add (k * 2)).block, off := (a.add (k * 2)).off + 1 }) (by show (a.add (k * 2)).block < _; rw [ivAdd_block]; exact hlt)).trans g1, g2.call hb⟩
theorem RoomsR.form {w : World} {v : Value} {Rs : List Rm} (h : RoomsR w v Rs) : ∃ ob cap, v = .slice ob Rs.length cap := by
  obtain ⟨ob, cap, h1, _⟩ := h; exact ⟨ob, cap, h1⟩
theorem RoomsR.at {w : World} {ob : Option Addr} {n cap : Nat} {Rs : List Rm} (h : RoomsR w (.slice ob n cap) Rs) {k : Nat} (hk : k < Rs.length) : ∃ a oc c, ob = some a ∧ w.cell? (a.add (k * 2)) = some (.int .i64 (Rs.getD k rm0).1) ∧ w.cell? { block := (a.add (k * 2)).block, off := (a.add (k * 2)).off + 1 } = some (.slice oc (Rs.getD k rm0).2.length c) ∧ IvL w 0 (.slice oc (Rs.getD k rm0).2.length c) (Rs.getD k rm0).2 := by
  obtain ⟨ob', c', h1, h2, h3⟩ := h
  cases h1
  obtain ⟨a, rfl⟩ := h2 (by omega)
  obtain ⟨g0, u, g1, g2⟩ := (h3 a rfl).2 k hk
  obtain ⟨oc, c, rfl⟩ := g2.form
  exact ⟨a, oc, c, rfl, g0, g1, g2⟩
/-- Those who cannot, put one by one. -/
def putL (l : List Int) : List Int := l.foldl put []
theorem putL_snoc (l : List Int) (x : Int) : putL (l ++ [x]) = put (putL l) x := by unfold putL; rw [List.foldl_append]; rfl
theorem putL_fold (l : List Int) : ∀ m, Rises m → Rises (l.foldl put m) ∧ ∀ x, x ∈ l.foldl put m ↔ x ∈ l ∨ x ∈ m := by
  induction l with
  | nil => exact fun m h => ⟨h, fun x => by simp⟩
  | cons a r ih =>
    intro m h
    obtain ⟨h1, h2⟩ := ih (put m a) (put_rises h a)
    refine ⟨h1, fun x => ?_⟩
    rw [List.foldl_cons, h2, put_mem, List.mem_cons]
    constructor
    · rintro (h | h | h)
      · exact .inl (.inr h)
      · exact .inl (.inl h)
      · exact .inr h
    · rintro ((h | h) | h)
      · exact .inr (.inl h)
      · exact .inl h
      · exact .inr (.inr h)
theorem rises_len : ∀ (l : List Int) (lo hi : Int), Rises l → (∀ x, x ∈ l → lo ≤ x ∧ x < hi) → lo ≤ hi → (l.length : Int) ≤ hi - lo
  | [], lo, hi, _, _, h => by simp; omega
  | a :: r, lo, hi, hr, hx, _ => by
    have h1 := hx a List.mem_cons_self
    have h2 := List.pairwise_cons.1 hr
    have := rises_len r (a + 1) hi h2.2 (fun x h => ⟨by have := h2.1 x h; omega, (hx x (List.mem_cons_of_mem _ h)).2⟩) (by omega)
    rw [List.length_cons]
    omega
theorem putL_len {P : List (List Iv)} {l : List Int} {a b : Int} {n : Nat} (h : ∀ x, x ∈ l → 0 ≤ x ∧ x < n) : (putL (missL P l a b)).length ≤ n := by
  have h1 := putL_fold (missL P l a b) [] List.Pairwise.nil
  have := rises_len (putL (missL P l a b)) 0 n h1.1 (fun x hx => by
    rcases (h1.2 x).1 hx with h2 | h2
    · exact h x (List.mem_filter.1 h2).1
    · cases h2) (by omega)
  omega
theorem putL_sort {P : List (List Iv)} {l : List Int} {a b : Int} (h : l.Nodup) : putL (missL P l a b) = sortL (missL P l a b) := sort_put (List.Nodup.sublist List.filter_sublist h)
theorem wChk_nodup {W : Wnt} {n : Int} (h : wChk W n = 0) : W.should.Nodup := by
  unfold wChk at h
  split at h
  · cases h
  · split at h
    · cases h
    · split at h
      · cases h
      · split at h
        · rename_i g3
          unfold whoB at g3
          exact (List.nodup_append.1 (of_decide_eq_true g3).1).2.1
        · cases h
theorem roomG_take {R : List Rm} {se a b : Int} {n j : Nat} (h : candB R se a b (n - 1 - j) = true ∧ (roomG R se a b n j < 0 ∨ (R.getD (n - 1 - j) rm0).1 ≤ (R.getD (roomG R se a b n j).toNat rm0).1)) : roomG R se a b n (j + 1) = ((n - 1 - j : Nat) : Int) := if_pos h
theorem roomG_keep {R : List Rm} {se a b : Int} {n j : Nat} (h : ¬ (candB R se a b (n - 1 - j) = true ∧ (roomG R se a b n j < 0 ∨ (R.getD (n - 1 - j) rm0).1 ≤ (R.getD (roomG R se a b n j).toNat rm0).1))) : roomG R se a b n (j + 1) = roomG R se a b n j := if_neg h
theorem roomG_bd (R : List Rm) (se a b : Int) (n j : Nat) (hj : j ≤ n) : -1 ≤ roomG R se a b n j ∧ roomG R se a b n j < n ∧ (roomG R se a b n j < 0 → roomG R se a b n j = -1) := by
  rcases roomG_best R se a b n j hj with ⟨e, _⟩ | ⟨i, e, _, h, _⟩
  · omega
  · omega
/-- A round's outcome. -/
theorem slot_of {W : Wnt} {P : List (List Iv)} {R : List Rm} {a r : Int} {Y : Bool} {m : List Int} (hY : Y = decide (missL P W.must a (a + W.len) = [])) (hr : r = if W.seats = 0 then -1 else roomF R W.seats a (a + W.len) R.length) (hm : m = sortL (missL P W.should a (a + W.len))) :
    (Y = true ∧ (W.seats = 0 ∨ 0 ≤ r) → slotR W P R a = some (r, m)) ∧ (¬ (Y = true ∧ (W.seats = 0 ∨ 0 ≤ r)) → slotR W P R a = none) := by
  unfold slotR
  by_cases h1 : missL P W.must a (a + W.len) = []
  · rw [decide_eq_true h1] at hY
    rw [if_pos h1]
    subst hY
    by_cases h2 : W.seats = 0
    · rw [if_pos h2] at hr
      rw [if_pos h2, hr, hm]
      exact ⟨fun _ => rfl, fun h => absurd ⟨rfl, .inl h2⟩ h⟩
    · rw [if_neg h2] at hr
      rw [if_neg h2, ← hr, ← hm]
      by_cases h3 : 0 ≤ r
      · rw [if_pos h3]
        exact ⟨fun _ => rfl, fun h => absurd ⟨rfl, .inr h3⟩ h⟩
      · rw [if_neg h3]
        exact ⟨fun h => (h.2.elim (fun h => absurd h h2) (fun h => absurd h h3)), fun _ => rfl⟩
  · rw [decide_eq_false h1] at hY
    rw [if_neg h1]
    subst hY
    exact ⟨fun h => (by cases h.1), fun _ => rfl⟩
end Go.Proofs.YtbmndenopgkpoaaDoor
