/- A plan that came in, opened. -/
import Derived.Test.YthhaopdimilmcaaDoorPlnB
import Derived.Test.YthhaopdimilmcaaDoorFrame
import Derived.Deep.Matrix
import Derived.Deep.Fields
import Derived.ChangeSame
namespace Go.Proofs.YthhaopdimilmcaaDoor
open Go.ChangeShapes Go.WideShapes Go.ChangeAt Go.RowKit Go.Joins Go.Deep
theorem open_slice_fields {H : Type} {enc : TypeId × Value → H} {P : Program} {w : World} {base : Nat} {spare : Nat → Bool} {held : Bool} {t e : TypeId} {fs : Array Field} {fuel : Nat} {cs : List Value} {x : DataW H × List MemPlace} (ht : P.underlying t = some (.slice e)) (he : P.underlying e = some (.struct fs))
    (hone : oneCellFields P fs = true) (hC : P.cellsOf e = fs.size) (h : DataW.trod enc P w base spare held fuel t cs = some x) :
    (cs = [.slice none 0 0] ∧ x = (.nil, [])) ∨
    ∃ (a : Addr) (len cap m : Nat), cs = [.slice (some a) len cap] ∧ base ≤ a.block ∧ len ≤ cap ∧ cap ≤ maxLen ∧ m = (if spare a.block then cap else len) ∧
      ∀ i, i < m → ∃ n, ∀ (j : Nat) (f : Field), fs[j]? = some f → ∃ (v : Value) (y : DataW H × List MemPlace), w.cell? (a.add (i * fs.size + j)) = some v ∧ DataW.trod enc P w base spare held n f.type [v] = some y := by
  rcases open_slice ht h with h0 | ⟨a, len, cap, m, n, D, Pl, hcs, hb, hl, hm, hmm, hx, hi⟩
  · exact .inl h0
  · refine .inr ⟨a, len, cap, m, hcs, hb, hl, hm, hmm, fun i him => ?_⟩
    obtain ⟨cs', hc, ht'⟩ := hi i him
    rw [hC] at hc
    obtain ⟨ys, n', hn', hy, hlen, hyl, hf⟩ := DataW.trod_struct he ht'
    obtain ⟨_, hcl, hat⟩ := World.cells?_some hc
    refine ⟨n', fun j f hj => ?_⟩
    obtain ⟨ho, hk⟩ := hone_of hone j f hj
    have hjl : j < fs.size := (Array.getElem?_eq_some_iff.1 hj).1
    have hcell := hat j hjl
    have hv : cs'[j]? = some (cs'[j]'(by omega)) := List.getElem?_eq_getElem (by omega)
    have h1 := hf j f hj
    rw [ho, hk] at h1
    have hone' : (cs'.drop j).take 1 = [cs'[j]'(by omega)] := by
      rw [List.drop_eq_getElem_cons (by omega)]
      rfl
    rw [hone'] at h1
    have hys : ys[j]? = some (ys[j]'(by omega)) := List.getElem?_eq_getElem (by omega)
    exact ⟨_, _, by rw [← Go.Deep.add_add, hcell, hv], h1.trans hys⟩
set_option maxRecDepth 100000 in
theorem open_links {H : Type} {enc : TypeId × Value → H} {W : World} {base fuel : Nat} {held : Bool} {v : Value} {x : DataW H × List MemPlace} (hf : DataW.trod enc Tryd.prog W base (fun _ => true) held fuel 32 [v] = some x) :
    ∃ (ob : Option Addr) (m cap : Nat) (t k g : Nat → Int), v = .slice ob m cap ∧ m ≤ 9223372036854775807 ∧ LinksR W ob m t k g := by
  rcases open_slice_fields Tryd.underlying32 Tryd.underlying43 (by kernel_rfl) (by kernel_rfl) hf with ⟨hcs0, _⟩ | ⟨a, len', cap', m, hcs0, _, hl, hm, hmm, hrows⟩
  · obtain rfl : v = .slice none 0 0 := by simpa using hcs0
    exact ⟨none, 0, 0, fun _ => 0, fun _ => 0, fun _ => 0, rfl, by omega, fun h => absurd h (Nat.lt_irrefl 0), fun a h => by cases h⟩
  · obtain rfl : v = .slice (some a) len' cap' := by simpa using hcs0
    unfold maxLen at hm
    simp only [if_true] at hmm
    subst hmm
    have each : ∀ i, i < m → ∃ q : Int × Int × Int, W.cell? (a.add (i * 3)) = some (.int .i64 q.1) ∧ W.cell? (a.add (i * 3 + 1)) = some (.int .i64 q.2.1) ∧ W.cell? (a.add (i * 3 + 2)) = some (.int .i64 q.2.2) := fun i hi => by
      obtain ⟨n, hi⟩ := hrows i hi
      obtain ⟨v0, y0, c0, t0⟩ := hi 0 _ rfl
      obtain ⟨v1, y1, c1, t1⟩ := hi 1 _ rfl
      obtain ⟨v2, y2, c2, t2⟩ := hi 2 _ rfl
      obtain ⟨x0, e0, rfl, _⟩ := DataW.trod_int Tryd.underlying3 t0
      obtain ⟨x1, e1, rfl, _⟩ := DataW.trod_int Tryd.underlying3 t1
      obtain ⟨x2, e2, rfl, _⟩ := DataW.trod_int Tryd.underlying3 t2
      simp at e0 e1 e2
      subst e0 e1 e2
      exact ⟨(x0, x1, x2), c0, c1, c2⟩
    obtain ⟨q, hq⟩ := choose_lt each
    refine ⟨some a, len', m, fun i => (q i).1, fun i => (q i).2.1, fun i => (q i).2.2, rfl, by omega, fun _ => ⟨a, rfl⟩, fun b hb => ?_⟩
    injection hb with hb
    subst hb
    refine ⟨fun h0 => ?_, fun i hi => hq i (by omega)⟩
    have := World.block_lt_of_cell? _ _ (hq 0 (by omega)).1
    rwa [add_block] at this
set_option maxRecDepth 100000 in
theorem open_uses {H : Type} {enc : TypeId × Value → H} {W : World} {base fuel : Nat} {held : Bool} {v : Value} {x : DataW H × List MemPlace} (hf : DataW.trod enc Tryd.prog W base (fun _ => true) held fuel 23 [v] = some x) :
    ∃ (ob : Option Addr) (m cap : Nat) (u : Nat → Int), v = .slice ob m cap ∧ m ≤ 9223372036854775807 ∧ (∀ j, j < m → -9223372036854775808 ≤ u j ∧ u j ≤ 9223372036854775807) ∧ IntsR W ob m u := by
  rcases open_ints Tryd.underlying23 Tryd.underlying3 (by kernel_rfl) hf with ⟨hcs, _⟩ | ⟨a, len', cap', zs, hcs, hb', hl', hm', hz, hy, hcell, hwz⟩
  · obtain rfl : v = .slice none 0 0 := by simpa using hcs
    exact ⟨none, 0, 0, fun _ => 0, rfl, by omega, fun j hj => absurd hj (Nat.not_lt_zero j), fun h => absurd h (Nat.lt_irrefl 0), fun a h => by cases h⟩
  · obtain rfl : v = .slice (some a) len' cap' := by simpa using hcs
    simp only [if_true] at hz
    unfold maxLen at hm'
    refine ⟨some a, len', cap', fun i => zs.getD i 0, rfl, by omega, fun j hj => ?_, fun _ => ⟨a, rfl⟩, fun b hb => ?_⟩
    · have h1 : zs.getD j 0 ∈ zs := by
        have : j < zs.length := by omega
        simp [List.getD, this]
      have h2 := hwz _ h1
      simp [Lit.wf] at h2
      obtain ⟨h3, h4⟩ := h2
      have e : IntKind.i64.min = -9223372036854775808 := by decide
      have e2 : IntKind.i64.max = 9223372036854775807 := by decide
      show -9223372036854775808 ≤ zs.getD j 0 ∧ zs.getD j 0 ≤ 9223372036854775807
      have e3 : zs.getD j 0 = zs[j]?.getD 0 := by simp [List.getD]
      omega
    · injection hb with hb
      subst hb
      refine ⟨fun h0 => ?_, fun i hi => hcell i (by omega)⟩
      have := World.block_lt_of_cell? _ _ (hcell 0 (by omega))
      rwa [add_block] at this
set_option maxRecDepth 100000 in
theorem open_plan {H : Type} {enc : TypeId × Value → H} {W : World} {b0 : Nat} {r : Reach} {v : Value} {d : DataW H} {p : List MemPlace} (hv : Value.okWide Tryd.prog W r b0 22 v) (h : DataW.Trod enc Tryd.prog W 0 (fun _ => true) true 22 v d p) :
    ∃ (oa : Option Addr) (cap : Nat) (AL AU : Nat → Option Addr) (CL CU : Nat → Nat) (T : Plan), v = .slice oa T.n cap ∧ T.n ≤ 9223372036854775807 ∧ (∀ i, i < T.n → T.lc i ≤ 9223372036854775807 ∧ T.uc i ≤ 9223372036854775807) ∧ PlanR W oa AL AU CL CU T := by
  obtain ⟨a0, len, cap, rfl⟩ := okWide_slice Tryd.underlying22 hv
  obtain ⟨fuel, hf⟩ := h
  rcases open_slice_fields Tryd.underlying22 Tryd.underlying34 (by kernel_rfl) (by kernel_rfl) hf with ⟨hcs0, _⟩ | ⟨a, len', cap', m, hcs0, _, hl, hm, hmm, hrows⟩
  · simp [Value.cells] at hcs0
    obtain ⟨rfl, rfl, rfl⟩ := hcs0
    exact ⟨none, 0, fun _ => none, fun _ => none, fun _ => 0, fun _ => 0, ⟨0, fun _ => 0, fun _ => 0, fun _ => 0, fun _ _ => 0, fun _ _ => 0, fun _ _ => 0, fun _ => 0, fun _ _ => 0⟩, rfl, by simp, fun i hi => absurd hi (Nat.not_lt_zero i), fun h => absurd h (Nat.lt_irrefl 0), (fun a h => by cases h), fun i hi => absurd hi (Nat.not_lt_zero i)⟩
  · simp [Value.cells] at hcs0
    obtain ⟨rfl, rfl, rfl⟩ := hcs0
    unfold maxLen at hm
    simp only [if_true] at hmm
    subst hmm
    have each : ∀ i, i < m → ∃ q : (Int × Int) × (Option Addr × Nat × Nat × (Nat → Int) × (Nat → Int) × (Nat → Int)) × (Option Addr × Nat × Nat × (Nat → Int)),
        (W.cell? (a.add (i * 4)) = some (.int .i64 q.1.1) ∧ W.cell? (a.add (i * 4 + 1)) = some (.int .i64 q.1.2) ∧ W.cell? (a.add (i * 4 + 2)) = some (.slice q.2.1.1 q.2.1.2.1 q.2.1.2.2.1) ∧ W.cell? (a.add (i * 4 + 3)) = some (.slice q.2.2.1 q.2.2.2.1 q.2.2.2.2.1)) ∧
        (q.2.1.2.1 ≤ 9223372036854775807 ∧ q.2.2.2.1 ≤ 9223372036854775807) ∧ LinksR W q.2.1.1 q.2.1.2.1 q.2.1.2.2.2.1 q.2.1.2.2.2.2.1 q.2.1.2.2.2.2.2 ∧ IntsR W q.2.2.1 q.2.2.2.1 q.2.2.2.2.2 := fun i hi => by
      obtain ⟨n, hi⟩ := hrows i hi
      obtain ⟨v0, y0, c0, t0⟩ := hi 0 _ rfl
      obtain ⟨v1, y1, c1, t1⟩ := hi 1 _ rfl
      obtain ⟨v2, y2, c2, t2⟩ := hi 2 _ rfl
      obtain ⟨v3, y3, c3, t3⟩ := hi 3 _ rfl
      obtain ⟨x0, e0, rfl, _⟩ := DataW.trod_int Tryd.underlying3 t0
      obtain ⟨x1, e1, rfl, _⟩ := DataW.trod_int Tryd.underlying3 t1
      obtain ⟨ob, mb, cb, tt, kk, gg, rfl, hmb, hLR⟩ := open_links t2
      obtain ⟨oc, mc, cc, uu, rfl, hmc, _, hUR⟩ := open_uses t3
      simp at e0 e1
      subst e0 e1
      exact ⟨((x0, x1), (ob, mb, cb, tt, kk, gg), (oc, mc, cc, uu)), ⟨c0, c1, c2, c3⟩, ⟨hmb, hmc⟩, hLR, hUR⟩
    obtain ⟨q, hq⟩ := choose_lt each
    refine ⟨some a, m, fun i => (q i).2.1.1, fun i => (q i).2.2.1, fun i => (q i).2.1.2.2.1, fun i => (q i).2.2.2.2.1, ⟨len, fun i => (q i).1.1, fun i => (q i).1.2, fun i => (q i).2.1.2.1, fun i => (q i).2.1.2.2.2.1, fun i => (q i).2.1.2.2.2.2.1, fun i => (q i).2.1.2.2.2.2.2, fun i => (q i).2.2.2.1, fun i => (q i).2.2.2.2.2⟩, rfl, by show len ≤ _; omega, fun i hi => (hq i (Nat.lt_of_lt_of_le hi hl)).2.1, fun _ => ⟨a, rfl⟩, fun b hb => ?_, fun i hi => (hq i (Nat.lt_of_lt_of_le hi hl)).2.2⟩
    injection hb with hb
    subst hb
    refine ⟨fun h0 => ?_, fun i hi => (hq i (Nat.lt_of_lt_of_le hi hl)).1⟩
    have := World.block_lt_of_cell? _ _ (hq 0 (Nat.lt_of_lt_of_le h0 hl)).1.1
    rwa [add_block] at this
set_option maxRecDepth 100000 in
theorem open_intsA {H : Type} {enc : TypeId × Value → H} {W : World} {b0 : Nat} {r : Reach} {v : Value} {d : DataW H} {p : List MemPlace} (hv : Value.okWide Tryd.prog W r b0 23 v) (h : DataW.Trod enc Tryd.prog W 0 (fun _ => true) true 23 v d p) :
    ∃ (ob : Option Addr) (m cap : Nat) (u : Nat → Int), v = .slice ob m cap ∧ m ≤ 9223372036854775807 ∧ (∀ j, j < m → -9223372036854775808 ≤ u j ∧ u j ≤ 9223372036854775807) ∧ IntsR W ob m u := by
  obtain ⟨a0, len, cap, rfl⟩ := okWide_slice Tryd.underlying23 hv
  obtain ⟨fuel, hf⟩ := h
  exact open_uses hf
end Go.Proofs.YthhaopdimilmcaaDoor
