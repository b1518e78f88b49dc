/- Hours of work that came in, opened. -/
import Derived.Test.YtbgcccfgcdkmdaaGreatDoorWrkC
import Derived.Test.YtbgcccfgcdkmdaaGreatDoorFrame
import Derived.Deep.Matrix
import Derived.Deep.Fields
import Derived.ChangeSame
import Derived.OpenShut
namespace Go.Proofs.YtbgcccfgcdkmdaaGreatDoor
open Go.ChangeShapes Go.WideShapes Go.ChangeAt Go.RowKit Go.Joins Go.Deep Wrk
theorem cells_of {W : World} {base : Nat} {a : Addr} {n : Nat} {cs : List Value} (h : W.cells? base a n = some cs) (j : Nat) (u : Value) (hu : cs[j]? = some u) : W.cell? (a.add j) = some u := by
  obtain ⟨_, hcl, hat⟩ := World.cells?_some h
  have hj : j < n := by rw [← hcl]; exact (List.getElem?_eq_some_iff.1 hu).1
  rw [hat j hj, hu]
theorem ints_of {H : Type} {enc : TypeId × Value → H} {W : World} {base fuel : Nat} {held : Bool} {t : TypeId} {fs : Array Field} {cs : List Value} {x : DataW H × List MemPlace}
    (hs : Tryz.prog.underlying t = some (.struct fs)) (hone : oneCellFields Tryz.prog fs = true) (hC : Tryz.prog.cellsOf t = fs.size) (hI : ∀ (j : Nat) (f : Field), fs[j]? = some f → ∃ k, Tryz.prog.underlying f.type = some (.int k) ∧ k = .i64)
    (h : DataW.trod enc Tryz.prog W base (fun _ => true) held fuel t cs = some x) : cs.length = fs.size ∧ ∀ j, j < fs.size → ∃ q : Int, cs[j]? = some (.int .i64 q) := by
  obtain ⟨xs, n, _, hx, hl, hlen, hr⟩ := DataW.trod_struct hs h
  have hll : cs.length = fs.size := hl.trans hC
  refine ⟨hll, fun j hj => ?_⟩
  obtain ⟨ho, hk⟩ := hone_of hone j fs[j] (Array.getElem?_eq_getElem hj)
  have h1 := hr j fs[j] (Array.getElem?_eq_getElem hj)
  rw [ho, hk] at h1
  have hone' : (cs.drop j).take 1 = [cs[j]'(by omega)] := by
    rw [List.drop_eq_getElem_cons (by omega)]
    rfl
  rw [hone', List.getElem?_eq_getElem (by omega)] at h1
  obtain ⟨k, hk1, rfl⟩ := hI j fs[j] (Array.getElem?_eq_getElem hj)
  obtain ⟨q, hq, _⟩ := DataW.trod_int hk1 h1
  rw [List.getElem?_eq_getElem (by omega)]
  simp at hq
  exact ⟨q, by rw [hq]⟩
/-- A slice that came in, each element by what it is at. -/
theorem open_cells {H : Type} {enc : TypeId × Value → H} {P : Program} {W : World} {base : Nat} {held : Bool} {t e : TypeId} {fuel : Nat} {v : Value} {x : DataW H × List MemPlace} {α : Type} (d0 : α) (R : α → List Value → Prop) (ht : P.underlying t = some (.slice e)) (h : DataW.trod enc P W base (fun _ => true) held fuel t [v] = some x)
    (each : ∀ n cs y, DataW.trod enc P W base (fun _ => true) held n e cs = some y → ∃ q, R q cs) :
    ∃ (oa : Option Addr) (cap : Nat) (L : List α), v = .slice oa L.length cap ∧ (0 < L.length → ∃ a, oa = some a) ∧ (∀ a, oa = some a → ∀ i, i < L.length → ∃ cs, W.cells? base (a.add (i * P.cellsOf e)) (P.cellsOf e) = some cs ∧ R (L.getD i d0) cs) := by
  rcases open_slice ht h with ⟨hcs, rfl⟩ | ⟨a, len, cap, m, n, D, Pl, hcs, hb, hl, hm, hmm, rfl, hi⟩
  · obtain rfl : v = .slice none 0 0 := by simpa using hcs
    exact ⟨none, 0, [], rfl, fun h => absurd h (Nat.lt_irrefl 0), (fun a h => by cases h)⟩
  · obtain rfl : v = .slice (some a) len cap := by simpa using hcs
    simp only [if_true] at hmm
    have one : ∀ i, i < len → ∃ q, ∃ cs, W.cells? base (a.add (i * P.cellsOf e)) (P.cellsOf e) = some cs ∧ R q cs := fun i hil => by
      obtain ⟨cs, h1, h2⟩ := hi i (by omega)
      obtain ⟨q, hq⟩ := each n cs _ h2
      exact ⟨q, cs, h1, hq⟩
    have : Inhabited α := ⟨d0⟩
    obtain ⟨q, hq⟩ := choose_lt one
    have hll : ((List.range len).map q).length = len := by simp
    refine ⟨some a, cap, (List.range len).map q, by rw [hll], fun _ => ⟨a, rfl⟩, fun b hb => ?_⟩
    injection hb with hb
    subst hb
    intro i hi
    rw [hll] at hi
    rw [show ((List.range len).map q).getD i d0 = q i by simp [List.getD, hi]]
    exact hq i hi
set_option maxRecDepth 100000 in
theorem open_vsp {H : Type} {enc : TypeId × Value → H} {W : World} {base fuel : Nat} {held : Bool} {v : Value} {x : DataW H × List MemPlace} (h : DataW.trod enc Tryz.prog W base (fun _ => true) held fuel 22 [v] = some x) :
    ∃ L, VSp W.heap.size W v L := by
  obtain ⟨oa, cap, L, rfl, h1, h2⟩ := open_cells ((0, 0) : Int × Int) (fun q cs => cs = [.int .i64 q.1, .int .i64 q.2]) Tryz.underlying22 h fun n cs y hy => by
    obtain ⟨hl, hq⟩ := ints_of Tryz.underlying47 (by kernel_rfl) (by kernel_rfl) (fun j f hf => by
      match j, hf with
      | 0, hf => obtain rfl := Option.some.inj hf; exact ⟨_, Tryz.underlying3, rfl⟩
      | 1, hf => obtain rfl := Option.some.inj hf; exact ⟨_, Tryz.underlying3, rfl⟩
      | j + 2, hf => simp at hf) hy
    have hl2 : cs.length = 2 := hl
    obtain ⟨q0, e0⟩ := hq 0 (by decide)
    obtain ⟨q1, e1⟩ := hq 1 (by decide)
    match cs, hl2 with
    | [u0, u1], _ =>
      simp at e0 e1
      exact ⟨(q0, q1), by rw [e0, e1]⟩
  have hce : Tryz.prog.cellsOf 47 = 2 := by kernel_rfl
  have cell : ∀ a, oa = some a → ∀ i, i < L.length → W.cell? (a.add (i * 2)) = some (.int .i64 (L.getD i (0, 0)).1) ∧ W.cell? ((a.add (i * 2)).add 1) = some (.int .i64 (L.getD i (0, 0)).2) := fun a ha i hi => by
    obtain ⟨cs, g1, g2⟩ := h2 a ha i hi
    rw [hce] at g1
    have q0 := cells_of g1 0 _ (by rw [g2]; rfl)
    have q1 := cells_of g1 1 _ (by rw [g2]; rfl)
    exact ⟨by simpa [Go.Deep.add_add] using q0, q1⟩
  refine ⟨L, oa, cap, rfl, h1, fun a ha => ⟨fun h0 => ?_, cell a ha⟩⟩
  have := World.block_lt_of_cell? _ _ (cell a ha 0 h0).1
  rwa [addr_block] at this
set_option maxRecDepth 100000 in
theorem open_vho {H : Type} {enc : TypeId × Value → H} {W : World} {base fuel : Nat} {held : Bool} {v : Value} {x : DataW H × List MemPlace} (h : DataW.trod enc Tryz.prog W base (fun _ => true) held fuel 24 [v] = some x) :
    ∃ L, VHo W.heap.size W v L := by
  obtain ⟨oa, cap, L, rfl, h1, h2⟩ := open_cells hol0 (fun q cs => ∀ k, k < 10 → cs[k]? = some (.int .i64 (fld q k))) Tryz.underlying24 h fun n cs y hy => by
    obtain ⟨hl, hq⟩ := ints_of Tryz.underlying59 (by kernel_rfl) (by kernel_rfl) (fun j f hf => by
      match j, hf with
      | 0, hf => obtain rfl := Option.some.inj hf; exact ⟨_, Tryz.underlying3, rfl⟩
      | 1, hf => obtain rfl := Option.some.inj hf; exact ⟨_, Tryz.underlying57, rfl⟩
      | 2, hf => obtain rfl := Option.some.inj hf; exact ⟨_, Tryz.underlying3, rfl⟩
      | 3, hf => obtain rfl := Option.some.inj hf; exact ⟨_, Tryz.underlying3, rfl⟩
      | 4, hf => obtain rfl := Option.some.inj hf; exact ⟨_, Tryz.underlying3, rfl⟩
      | 5, hf => obtain rfl := Option.some.inj hf; exact ⟨_, Tryz.underlying3, rfl⟩
      | 6, hf => obtain rfl := Option.some.inj hf; exact ⟨_, Tryz.underlying3, rfl⟩
      | 7, hf => obtain rfl := Option.some.inj hf; exact ⟨_, Tryz.underlying3, rfl⟩
      | 8, hf => obtain rfl := Option.some.inj hf; exact ⟨_, Tryz.underlying3, rfl⟩
      | 9, hf => obtain rfl := Option.some.inj hf; exact ⟨_, Tryz.underlying3, rfl⟩
      | j + 10, hf => simp at hf) hy
    obtain ⟨q0, e0⟩ := hq 0 (by decide)
    obtain ⟨q1, e1⟩ := hq 1 (by decide)
    obtain ⟨q2, e2⟩ := hq 2 (by decide)
    obtain ⟨q3, e3⟩ := hq 3 (by decide)
    obtain ⟨q4, e4⟩ := hq 4 (by decide)
    obtain ⟨q5, e5⟩ := hq 5 (by decide)
    obtain ⟨q6, e6⟩ := hq 6 (by decide)
    obtain ⟨q7, e7⟩ := hq 7 (by decide)
    obtain ⟨q8, e8⟩ := hq 8 (by decide)
    obtain ⟨q9, e9⟩ := hq 9 (by decide)
    refine ⟨⟨q0, q1, q2, q3, q4, q5, q6, q7, q8, q9⟩, fun k hk => ?_⟩
    match k, hk with
    | 0, _ => exact e0
    | 1, _ => exact e1
    | 2, _ => exact e2
    | 3, _ => exact e3
    | 4, _ => exact e4
    | 5, _ => exact e5
    | 6, _ => exact e6
    | 7, _ => exact e7
    | 8, _ => exact e8
    | 9, _ => exact e9
    | k + 10, h => exact absurd h (by omega)
  have hce : Tryz.prog.cellsOf 59 = 10 := by kernel_rfl
  have cell : ∀ a, oa = some a → ∀ i, i < L.length → ∀ k, k < 10 → W.cell? ((a.add (i * 10)).add k) = some (.int .i64 (fld (L.getD i hol0) k)) := fun a ha i hi k hk => by
    obtain ⟨cs, g1, g2⟩ := h2 a ha i hi
    rw [hce] at g1
    exact cells_of g1 k _ (g2 k hk)
  refine ⟨L, oa, cap, rfl, h1, fun a ha => ⟨fun h0 => ?_, cell a ha⟩⟩
  have := World.block_lt_of_cell? _ _ (cell a ha 0 h0 0 (by decide))
  rwa [addr_block, addr_block] at this
set_option maxRecDepth 100000 in
theorem open_hours {H : Type} {enc : TypeId × Value → H} {W : World} {b0 : Nat} {r : Reach} {v : Value} {d : DataW H} {p : List MemPlace} (hv : Value.okWide Tryz.prog W r b0 26 v) (h : DataW.Trod enc Tryz.prog W 0 (fun _ => true) true 26 v d p) :
    ∃ (s : Nat → Value) (vh : Value) (X : Hrs), v = hoursV s vh ∧ HrsR W.heap.size W s vh X := by
  obtain ⟨⟨l⟩, rfl, hsz⟩ := okWide_struct Tryz.underlying26 hv
  obtain ⟨fuel, hf⟩ := h
  simp only [Value.cells] at hf
  obtain ⟨xs, n, _, hx, hl, hlen, hr⟩ := DataW.trod_struct Tryz.underlying26 hf
  have hce : Tryz.prog.cellsOf 26 = 8 := by kernel_rfl
  rw [hce] at hl
  have hxl : xs.length = 2 := hlen
  match l, hl, xs, hxl with
  | [u0, u1, u2, u3, u4, u5, u6, u7], _, [y0, y1], _ =>
    have e0 := hr 0 _ rfl
    have e1 := hr 1 _ rfl
    have k0 : Tryz.prog.cellsOf 23 = 7 := by kernel_rfl
    have k1 : Tryz.prog.cellsOf 24 = 1 := by kernel_rfl
    have k2 : Tryz.prog.cellsOf 22 = 1 := by kernel_rfl
    have t0 : DataW.trod enc Tryz.prog W 0 (fun _ => true) true n 23 [u0, u1, u2, u3, u4, u5, u6] = some y0 := by
      simpa [k0] using e0
    have t1 : DataW.trod enc Tryz.prog W 0 (fun _ => true) true n 24 [u7] = some y1 := by
      simpa [k1] using e1
    obtain ⟨zs, m, _, _, _, hzl, hz⟩ := DataW.trod_array Tryz.underlying23 t0
    rw [k2] at hz
    have w : ∀ (k : Nat) (u : Value), k < 7 → ([u0, u1, u2, u3, u4, u5, u6].drop (k * 1)).take 1 = [u] → ∃ L, VSp W.heap.size W u L := fun k u hk he => by
      have h2 := hz k hk
      rw [he, List.getElem?_eq_getElem (by omega)] at h2
      exact open_vsp h2
    obtain ⟨L0, r0⟩ := w 0 u0 (by decide) rfl
    obtain ⟨L1, r1⟩ := w 1 u1 (by decide) rfl
    obtain ⟨L2, r2⟩ := w 2 u2 (by decide) rfl
    obtain ⟨L3, r3⟩ := w 3 u3 (by decide) rfl
    obtain ⟨L4, r4⟩ := w 4 u4 (by decide) rfl
    obtain ⟨L5, r5⟩ := w 5 u5 (by decide) rfl
    obtain ⟨L6, r6⟩ := w 6 u6 (by decide) rfl
    obtain ⟨LH, rh⟩ := open_vho t1
    exact ⟨fun k => [u0, u1, u2, u3, u4, u5, u6].getD k (.slice none 0 0), u7, ⟨fun k => [L0, L1, L2, L3, L4, L5, L6].getD k [], LH⟩, rfl, ⟨seven r0 r1 r2 r3 r4 r5 r6, rh⟩⟩
end Go.Proofs.YtbgcccfgcdkmdaaGreatDoor
