/- A net and a list of spans that came in, opened. -/
import Derived.Test.YtpmppgmnnnlonaaDoorSpanZ
import Derived.Test.YtpmppgmnnnlonaaDoorFrame
import Derived.Deep.Matrix
import Derived.Deep.Fields
import Derived.ChangeSame
namespace Go.Proofs.YtpmppgmnnnlonaaDoor
open Go.ChangeShapes Go.WideShapes Go.ChangeAt Go.RowKit Go.Joins Go.Deep
theorem open_slice_fields {H : Type} {enc : TypeId × Value → H} {P : Program} {w : World} {base : Nat} {spare : Nat → Bool} {held : Bool} {t e : TypeId} {fs : Array Field} {fuel : Nat} {cs : List Value} {x : DataW H × List MemPlace} (ht : P.underlying t = some (.slice e)) (he : P.underlying e = some (.struct fs))
    (hone : oneCellFields P fs = true) (hC : P.cellsOf e = fs.size) (h : DataW.trod enc P w base spare held fuel t cs = some x) :
    (cs = [.slice none 0 0] ∧ x = (.nil, [])) ∨
    ∃ (a : Addr) (len cap m : Nat), cs = [.slice (some a) len cap] ∧ base ≤ a.block ∧ len ≤ cap ∧ cap ≤ maxLen ∧ m = (if spare a.block then cap else len) ∧
      ∀ i, i < m → ∃ n, ∀ (j : Nat) (f : Field), fs[j]? = some f → ∃ (v : Value) (y : DataW H × List MemPlace), w.cell? (a.add (i * fs.size + j)) = some v ∧ DataW.trod enc P w base spare held n f.type [v] = some y := by
  rcases open_slice ht h with h0 | ⟨a, len, cap, m, n, D, Pl, hcs, hb, hl, hm, hmm, hx, hi⟩
  · exact .inl h0
  · refine .inr ⟨a, len, cap, m, hcs, hb, hl, hm, hmm, fun i him => ?_⟩
    obtain ⟨cs', hc, ht'⟩ := hi i him
    rw [hC] at hc
    obtain ⟨ys, n', hn', hy, hlen, hyl, hf⟩ := DataW.trod_struct he ht'
    obtain ⟨_, hcl, hat⟩ := World.cells?_some hc
    refine ⟨n', fun j f hj => ?_⟩
    obtain ⟨ho, hk⟩ := hone_of hone j f hj
    have hjl : j < fs.size := (Array.getElem?_eq_some_iff.1 hj).1
    have hcell := hat j hjl
    have hv : cs'[j]? = some (cs'[j]'(by omega)) := List.getElem?_eq_getElem (by omega)
    have h1 := hf j f hj
    rw [ho, hk] at h1
    have hone' : (cs'.drop j).take 1 = [cs'[j]'(by omega)] := by
      rw [List.drop_eq_getElem_cons (by omega)]
      rfl
    rw [hone'] at h1
    have hys : ys[j]? = some (ys[j]'(by omega)) := List.getElem?_eq_getElem (by omega)
    exact ⟨_, _, by rw [← Go.Deep.add_add, hcell, hv], h1.trans hys⟩
set_option maxRecDepth 100000 in
theorem open_net {H : Type} {enc : TypeId × Value → H} {W : World} {b0 : Nat} {r : Reach} {v : Value} {d : DataW H} {p : List MemPlace} (hv : Value.okWide Tryd.prog W r b0 36 v) (h : DataW.Trod enc Tryd.prog W 0 (fun _ => true) true 36 v d p) :
    ∃ (oa : Option Addr) (n cap : Nat) (A : Nat → Option Addr) (L C : Nat → Nat) (z : Nat → Nat → Int), v = .slice oa n cap ∧ n ≤ 9223372036854775807 ∧ (∀ i, i < n → L i ≤ 9223372036854775807) ∧ NetR W oa n A L C z := by
  obtain ⟨a0, len, cap, rfl⟩ := okWide_slice Tryd.underlying36 hv
  obtain ⟨fuel, hf⟩ := h
  rcases open_int_rows Tryd.underlying36 Tryd.underlying66 Tryd.underlying27 (by kernel_rfl) (by kernel_rfl) hf with ⟨hcs0, _⟩ | ⟨a, len', cap', A, L, C, Z, hcs0, _, hl, hm, _, hrows⟩
  · simp [Value.cells] at hcs0
    obtain ⟨rfl, rfl, rfl⟩ := hcs0
    exact ⟨none, 0, 0, fun _ => none, fun _ => 0, fun _ => 0, fun _ _ => 0, rfl, by omega, fun i hi => absurd hi (Nat.not_lt_zero i), fun h => absurd h (Nat.lt_irrefl 0), fun a h => by cases h⟩
  · simp [Value.cells] at hcs0
    obtain ⟨rfl, rfl, rfl⟩ := hcs0
    unfold maxLen at hm hrows
    refine ⟨some a, len, cap, A, L, C, fun i k => (Z i).getD k 0, rfl, by omega, fun i hi => ?_, fun _ => ⟨a, rfl⟩, fun b hb => ?_⟩
    · obtain ⟨_, h1, h2, _⟩ := hrows i (by omega); omega
    · injection hb with hb
      subst hb
      refine ⟨fun h0 => ?_, fun i hi => ?_⟩
      · have := World.block_lt_of_cell? _ _ (hrows 0 (by omega)).1
        rwa [add_block] at this
      · obtain ⟨h1, h2, h3, h4, h5, h6, h7⟩ := hrows i (by omega)
        refine ⟨h1, fun h0 => ?_, fun b hb => ?_⟩
        · cases hA : A i with
          | none => have := h6 hA; omega
          | some b => exact ⟨b, rfl⟩
        · obtain ⟨_, hc⟩ := h7 b hb
          refine ⟨fun h0 => ?_, fun k hk => hc k (by omega)⟩
          have := World.block_lt_of_cell? _ _ (hc 0 (by omega))
          rwa [add_block] at this
set_option maxRecDepth 100000 in
theorem open_spans {H : Type} {enc : TypeId × Value → H} {W : World} {b0 : Nat} {r : Reach} {v : Value} {d : DataW H} {p : List MemPlace} (hv : Value.okWide Tryd.prog W r b0 31 v) (h : DataW.Trod enc Tryd.prog W 0 (fun _ => true) true 31 v d p) :
    ∃ (ob : Option Addr) (m cap : Nat) (x y : Nat → Int), v = .slice ob m cap ∧ m ≤ 9223372036854775807 ∧ SpanR W ob m x y := by
  obtain ⟨a0, len, cap, rfl⟩ := okWide_slice Tryd.underlying31 hv
  obtain ⟨fuel, hf⟩ := h
  rcases open_slice_fields Tryd.underlying31 Tryd.underlying23 (by kernel_rfl) (by kernel_rfl) hf with ⟨hcs0, _⟩ | ⟨a, len', cap', m, hcs0, _, hl, hm, hmm, hrows⟩
  · simp [Value.cells] at hcs0
    obtain ⟨rfl, rfl, rfl⟩ := hcs0
    exact ⟨none, 0, 0, fun _ => 0, fun _ => 0, rfl, by omega, fun h => absurd h (Nat.lt_irrefl 0), fun a h => by cases h⟩
  · simp [Value.cells] at hcs0
    obtain ⟨rfl, rfl, rfl⟩ := hcs0
    unfold maxLen at hm
    simp only [if_true] at hmm
    subst hmm
    have each : ∀ i, i < m → ∃ q : Int × Int, W.cell? (a.add (i * 2)) = some (.int .i64 q.1) ∧ W.cell? (a.add (i * 2 + 1)) = some (.int .i64 q.2) := fun i hi => by
      obtain ⟨n, hi⟩ := hrows i hi
      obtain ⟨v0, y0, c0, t0⟩ := hi 0 _ rfl
      obtain ⟨v1, y1, c1, t1⟩ := hi 1 _ rfl
      obtain ⟨x0, e0, rfl, _⟩ := DataW.trod_int Tryd.underlying3 t0
      obtain ⟨x1, e1, rfl, _⟩ := DataW.trod_int Tryd.underlying3 t1
      simp at e0 e1
      subst e0 e1
      exact ⟨(x0, x1), c0, c1⟩
    obtain ⟨q, hq⟩ := choose_lt each
    refine ⟨some a, len, m, fun i => (q i).1, fun i => (q i).2, rfl, by omega, fun _ => ⟨a, rfl⟩, fun b hb => ?_⟩
    injection hb with hb
    subst hb
    refine ⟨fun h0 => ?_, fun i hi => hq i (by omega)⟩
    have := World.block_lt_of_cell? _ _ (hq 0 (by omega)).1
    rwa [add_block] at this
end Go.Proofs.YtpmppgmnnnlonaaDoor
