/- A Want, lists of lists of spans, numbers that came in, opened; their bulk. -/
import Derived.Test.YtbmndenopgkpoaaDoorBsyV
import Derived.Test.YtbmndenopgkpoaaDoorFrame
import Derived.Deep.Matrix
import Derived.Deep.Fields
import Derived.ChangeSame
import Derived.OpenShut
namespace Go.Proofs.YtbmndenopgkpoaaDoor
open Go.ChangeShapes Go.WideShapes Go.ChangeAt Go.RowKit Go.Joins Go.Deep Wrk
theorem cells_of {W : World} {base : Nat} {a : Addr} {n : Nat} {cs : List Value} (h : W.cells? base a n = some cs) (j : Nat) (u : Value) (hu : cs[j]? = some u) : W.cell? (a.add j) = some u := by
  obtain ⟨_, hcl, hat⟩ := World.cells?_some h
  have hj : j < n := by rw [← hcl]; exact (List.getElem?_eq_some_iff.1 hu).1
  rw [hat j hj, hu]
theorem ints_of {H : Type} {enc : TypeId × Value → H} {W : World} {base fuel : Nat} {held : Bool} {t : TypeId} {fs : Array Field} {cs : List Value} {x : DataW H × List MemPlace}
    (hs : Tryd.prog.underlying t = some (.struct fs)) (hone : oneCellFields Tryd.prog fs = true) (hC : Tryd.prog.cellsOf t = fs.size) (hI : ∀ (j : Nat) (f : Field), fs[j]? = some f → ∃ k, Tryd.prog.underlying f.type = some (.int k) ∧ k = .i64)
    (h : DataW.trod enc Tryd.prog W base (fun _ => true) held fuel t cs = some x) : cs.length = fs.size ∧ ∀ j, j < fs.size → ∃ q : Int, cs[j]? = some (.int .i64 q) := by
  obtain ⟨xs, n, _, hx, hl, hlen, hr⟩ := DataW.trod_struct hs h
  have hll : cs.length = fs.size := hl.trans hC
  refine ⟨hll, fun j hj => ?_⟩
  obtain ⟨ho, hk⟩ := hone_of hone j fs[j] (Array.getElem?_eq_getElem hj)
  have h1 := hr j fs[j] (Array.getElem?_eq_getElem hj)
  rw [ho, hk] at h1
  have hone' : (cs.drop j).take 1 = [cs[j]'(by omega)] := by
    rw [List.drop_eq_getElem_cons (by omega)]
    rfl
  rw [hone', List.getElem?_eq_getElem (by omega)] at h1
  obtain ⟨k, hk1, rfl⟩ := hI j fs[j] (Array.getElem?_eq_getElem hj)
  obtain ⟨q, hq, _⟩ := DataW.trod_int hk1 h1
  rw [List.getElem?_eq_getElem (by omega)]
  simp at hq
  exact ⟨q, by rw [hq]⟩
theorem bulk_pos {H : Type} (d : DataW H) : 1 ≤ Rows.uptoBulk d := by
  cases d with
  | lit l => cases l <;> simp [Rows.uptoBulk]
  | _ => simp [Rows.uptoBulk]
theorem bulk_len {H : Type} : ∀ l : List (DataW H), l.length ≤ Rows.uptoBulkAll l
  | [] => Nat.le_refl _
  | d :: l => by
    have h1 := bulk_pos d
    have h2 := bulk_len l
    simp only [List.length_cons, Rows.uptoBulkAll]
    omega
/-- A slice that came in, each thing by a relation; its length. -/
theorem open_seq {H : Type} {enc : TypeId × Value → H} {P : Program} {W : World} {base : Nat} {held : Bool} {t e : TypeId} {fuel : Nat} {cs : List Value} {x : DataW H × List MemPlace} {α : Type} (d0 : α) (R : α → List Value → Prop) (ht : P.underlying t = some (.slice e)) (h : DataW.trod enc P W base (fun _ => true) held fuel t cs = some x)
    (each : ∀ n cs y, DataW.trod enc P W base (fun _ => true) held n e cs = some y → ∃ q, R q cs) :
    ∃ (oa : Option Addr) (cap : Nat) (L : List α), cs = [.slice oa L.length cap] ∧ (oa = none → L = [] ∧ cap = 0) ∧ (0 < L.length → ∃ a, oa = some a) ∧ (∀ a, oa = some a → ∀ i, i < L.length → ∃ cs, W.cells? base (a.add (i * P.cellsOf e)) (P.cellsOf e) = some cs ∧ R (L.getD i d0) cs) ∧ L.length + 1 ≤ Rows.uptoBulk x.1 := by
  rcases open_slice ht h with ⟨hcs, rfl⟩ | ⟨a, len, cap, m, n, D, Pl, hcs, hb, hl, hm, hmm, rfl, hi⟩
  · exact ⟨none, 0, [], hcs, fun _ => ⟨rfl, rfl⟩, fun h => absurd h (Nat.lt_irrefl 0), (fun a h => by cases h), by simp [Rows.uptoBulk]⟩
  · simp only [if_true] at hmm
    have one : ∀ i, i < len → ∃ q, (∃ cs, W.cells? base (a.add (i * P.cellsOf e)) (P.cellsOf e) = some cs ∧ R q cs) := fun i hil => by
      obtain ⟨cs, h1, h2⟩ := hi i (by omega)
      obtain ⟨q, hq⟩ := each n cs _ h2
      exact ⟨q, cs, h1, hq⟩
    have : Inhabited α := ⟨d0⟩
    obtain ⟨q, hq⟩ := choose_lt one
    have hll : ((List.range len).map q).length = len := by simp
    refine ⟨some a, cap, (List.range len).map q, by rw [hll]; exact hcs, (fun h => by cases h), fun _ => ⟨a, rfl⟩, fun b hb => ?_, ?_⟩
    · injection hb with hb
      subst hb
      intro i hi
      rw [hll] at hi
      rw [show ((List.range len).map q).getD i d0 = q i by simp [List.getD, hi]]
      exact hq i hi
    · have := bulk_len ((List.range len).map D)
      rw [List.length_map, List.length_range] at this
      rw [hll]
      simp only [Rows.uptoBulk]
      omega
set_option maxRecDepth 100000 in
theorem open_intC {H : Type} {enc : TypeId × Value → H} {W : World} {fuel : Nat} {held : Bool} {cs : List Value} {x : DataW H × List MemPlace} (h : DataW.trod enc Tryd.prog W 0 (fun _ => true) held fuel 23 cs = some x) :
    ∃ v L, cs = [v] ∧ IntC W v L ∧ L.length + 1 ≤ Rows.uptoBulk x.1 := by
  obtain ⟨oa, cap, L, rfl, h0, h1, h2, h3⟩ := open_seq (0 : Int) (fun q cs => cs = [.int .i64 q]) Tryd.underlying23 h fun n cs y hy => by
    obtain ⟨q, e, -⟩ := DataW.trod_int Tryd.underlying3 hy
    exact ⟨q, e⟩
  have hce : Tryd.prog.cellsOf 3 = 1 := by kernel_rfl
  refine ⟨_, L, rfl, ⟨oa, cap, rfl, h0, fun a ha => ?_⟩, h3⟩
  have cell : ∀ i, i < L.length → W.cell? (a.add i) = some (.int .i64 (L.getD i 0)) := fun i hi => by
    obtain ⟨cs, g1, g2⟩ := h2 a ha i hi
    rw [hce] at g1
    have q0 := cells_of g1 0 _ (by rw [g2]; rfl)
    simpa [Go.Deep.add_add] using q0
  refine ⟨fun h0 => ?_, cell⟩
  have := World.block_lt_of_cell? _ _ (cell 0 h0)
  rwa [add_block] at this
set_option maxRecDepth 100000 in
theorem open_ivS {H : Type} {enc : TypeId × Value → H} {W : World} {fuel : Nat} {held : Bool} {cs : List Value} {x : DataW H × List MemPlace} (h : DataW.trod enc Tryd.prog W 0 (fun _ => true) held fuel 29 cs = some x) :
    ∃ v L, cs = [v] ∧ IvS W v L := by
  obtain ⟨oa, cap, L, rfl, h0, h1, h2, h3⟩ := open_seq iv0 (fun q cs => cs = [.int .i64 q.1, .int .i64 q.2]) Tryd.underlying29 h fun n cs y hy => by
    obtain ⟨hl, hq⟩ := ints_of Tryd.underlying55 (by kernel_rfl) (by kernel_rfl) (fun j f hf => by
      match j, hf with
      | 0, hf => obtain rfl := Option.some.inj hf; exact ⟨_, Tryd.underlying3, rfl⟩
      | 1, hf => obtain rfl := Option.some.inj hf; exact ⟨_, Tryd.underlying3, rfl⟩
      | j + 2, hf => simp at hf) hy
    have hl2 : cs.length = 2 := hl
    obtain ⟨q0, e0⟩ := hq 0 (by decide)
    obtain ⟨q1, e1⟩ := hq 1 (by decide)
    match cs, hl2 with
    | [u0, u1], _ =>
      simp at e0 e1
      exact ⟨(q0, q1), by rw [e0, e1]⟩
  have hce : Tryd.prog.cellsOf 55 = 2 := by kernel_rfl
  refine ⟨_, L, rfl, oa, cap, rfl, h0, h1, fun a ha => ?_⟩
  have cell : ∀ i, i < L.length → W.cell? (a.add (i * 2)) = some (.int .i64 (L.getD i iv0).1) ∧ W.cell? (a.add (i * 2 + 1)) = some (.int .i64 (L.getD i iv0).2) := fun i hi => by
    obtain ⟨cs, g1, g2⟩ := h2 a ha i hi
    rw [hce] at g1
    have q0 := cells_of g1 0 _ (by rw [g2]; rfl)
    have q1 := cells_of g1 1 _ (by rw [g2]; rfl)
    exact ⟨by simpa [Go.Deep.add_add] using q0, by simpa [Go.Deep.add_add] using q1⟩
  refine ⟨fun h0 => ?_, cell⟩
  have := World.block_lt_of_cell? _ _ (cell 0 h0).1
  rwa [ivAdd_block] at this
set_option maxRecDepth 100000 in
theorem open_sets {H : Type} {enc : TypeId × Value → H} {W : World} {b0 : Nat} {r : Reach} {v : Value} {d : DataW H} {p : List MemPlace} (hv : Value.okWide Tryd.prog W r b0 26 v) (h : DataW.Trod enc Tryd.prog W 0 (fun _ => true) true 26 v d p) :
    ∃ L, SetsS W v L := by
  obtain ⟨a0, len, cap0, rfl⟩ := okWide_slice Tryd.underlying26 hv
  obtain ⟨fuel, hf⟩ := h
  obtain ⟨oa, cap, L, hcs, h0, h1, h2, h3⟩ := open_seq ([] : List Iv) (fun q cs => ∃ u, cs = [u] ∧ IvS W u q) Tryd.underlying26 hf fun n cs y hy => by
    obtain ⟨u, q, e, hq⟩ := open_ivS hy
    exact ⟨q, u, e, hq⟩
  simp [Value.cells] at hcs
  obtain ⟨rfl, rfl, rfl⟩ := hcs
  have hce : Tryd.prog.cellsOf 29 = 1 := by kernel_rfl
  refine ⟨L, _, _, rfl, h1, fun a ha => ?_⟩
  have cell : ∀ i, i < L.length → ∃ u, W.cell? (a.add i) = some u ∧ IvS W u (L.getD i []) := fun i hi => by
    obtain ⟨cs, g1, u, g2, g3⟩ := h2 a ha i hi
    rw [hce] at g1
    have q0 := cells_of g1 0 _ (by rw [g2]; rfl)
    exact ⟨u, by simpa [Go.Deep.add_add] using q0, g3⟩
  refine ⟨fun h0 => ?_, cell⟩
  obtain ⟨u, hu, -⟩ := cell 0 h0
  have := World.block_lt_of_cell? _ _ hu
  rwa [ivAdd_block] at this
set_option maxRecDepth 100000 in
theorem open_seats {H : Type} {enc : TypeId × Value → H} {W : World} {b0 : Nat} {r : Reach} {v : Value} {d : DataW H} {p : List MemPlace} (hv : Value.okWide Tryd.prog W r b0 23 v) (h : DataW.Trod enc Tryd.prog W 0 (fun _ => true) true 23 v d p) :
    ∃ L, IntC W v L ∧ L.length ≤ Rows.uptoBulk d := by
  obtain ⟨a0, len, cap0, rfl⟩ := okWide_slice Tryd.underlying23 hv
  obtain ⟨fuel, hf⟩ := h
  obtain ⟨u, L, e, h1, h2⟩ := open_intC hf
  simp [Value.cells] at e
  subst e
  exact ⟨L, h1, by simp only at h2; omega⟩
set_option maxRecDepth 100000 in
theorem inI_wfB {n : Int} (h : (Lit.int .i64 n).wf = true) : InI n := by
  simp [Lit.wf] at h
  obtain ⟨h1, h2⟩ := h
  have e : IntKind.i64.min = -9223372036854775808 := by decide
  exact ⟨by omega, h2⟩
set_option maxRecDepth 100000 in
theorem open_want {H : Type} {enc : TypeId × Value → H} {W : World} {b0 : Nat} {r : Reach} {v : Value} {d : DataW H} {p : List MemPlace} (hv : Value.okWide Tryd.prog W r b0 25 v) (h : DataW.Trod enc Tryd.prog W 0 (fun _ => true) true 25 v d p) :
    ∃ (X : Wnt) (vm vs : Value), v = wantV X vm vs ∧ IntC W vm X.must ∧ IntC W vs X.should ∧ InI X.step ∧ X.must.length + X.should.length ≤ Rows.uptoBulk d := by
  obtain ⟨⟨l⟩, rfl, hsz⟩ := okWide_struct Tryd.underlying25 hv
  obtain ⟨fuel, hf⟩ := h
  simp only [Value.cells] at hf
  obtain ⟨xs, n, _, hx, hl, hlen, hr⟩ := DataW.trod_struct Tryd.underlying25 hf
  have hce : Tryd.prog.cellsOf 25 = 7 := by kernel_rfl
  rw [hce] at hl
  have hxl : xs.length = 7 := hlen
  match l, hl, xs, hxl with
  | [u0, u1, u2, u3, u4, u5, u6], _, [y0, y1, y2, y3, y4, y5, y6], _ =>
    have k0 : Tryd.prog.cellsOf 3 = 1 := by kernel_rfl
    have k1 : Tryd.prog.cellsOf 23 = 1 := by kernel_rfl
    have k2 : Tryd.prog.cellsOf 22 = 1 := by kernel_rfl
    have t0 : DataW.trod enc Tryd.prog W 0 (fun _ => true) true n 3 [u0] = some y0 := by simpa [k0] using hr 0 _ rfl
    have t1 : DataW.trod enc Tryd.prog W 0 (fun _ => true) true n 3 [u1] = some y1 := by simpa [k0] using hr 1 _ rfl
    have t2 : DataW.trod enc Tryd.prog W 0 (fun _ => true) true n 22 [u2] = some y2 := by simpa [k2] using hr 2 _ rfl
    have t3 : DataW.trod enc Tryd.prog W 0 (fun _ => true) true n 22 [u3] = some y3 := by simpa [k2] using hr 3 _ rfl
    have t4 : DataW.trod enc Tryd.prog W 0 (fun _ => true) true n 23 [u4] = some y4 := by simpa [k1] using hr 4 _ rfl
    have t5 : DataW.trod enc Tryd.prog W 0 (fun _ => true) true n 23 [u5] = some y5 := by simpa [k1] using hr 5 _ rfl
    have t6 : DataW.trod enc Tryd.prog W 0 (fun _ => true) true n 3 [u6] = some y6 := by simpa [k0] using hr 6 _ rfl
    obtain ⟨q0, e0, -, -⟩ := DataW.trod_int Tryd.underlying3 t0
    obtain ⟨q1, e1, -, w1⟩ := DataW.trod_int Tryd.underlying3 t1
    obtain ⟨q2, e2, -, -⟩ := DataW.trod_int Tryd.underlying22 t2
    obtain ⟨q3, e3, -, -⟩ := DataW.trod_int Tryd.underlying22 t3
    obtain ⟨v4, L4, e4, i4, z4⟩ := open_intC t4
    obtain ⟨v5, L5, e5, i5, z5⟩ := open_intC t5
    obtain ⟨q6, e6, -, -⟩ := DataW.trod_int Tryd.underlying3 t6
    simp at e0 e1 e2 e3 e4 e5 e6
    subst e0 e1 e2 e3 e4 e5 e6
    have hd : d = .agg ([y0, y1, y2, y3, y4, y5, y6].map (·.1)) := congrArg Prod.fst hx
    refine ⟨⟨q0, q1, q2, q3, L4, L5, q6⟩, _, _, rfl, i4, i5, inI_wfB w1, ?_⟩
    rw [hd]
    simp only [List.map_cons, List.map_nil, Rows.uptoBulk, Rows.uptoBulkAll]
    omega
theorem busyFinds_law (X : Wnt) (vm vs v1 : Value) (L1 : List (List Iv)) (v2 : Value) (L2 : List (List Iv)) (v3 : Value) (L3 : List Int) (w : World) (hT : ErrT w) (hm : IntC w vm X.must) (hs : IntC w vs X.should) (iSt : InI X.step) (hz : X.must.length + X.should.length ≤ 1048576) (h1 : SetsS w v1 L1) (h2 : SetsS w v2 L2) (h3 : IntC w v3 L3) (hz3 : L3.length ≤ 1048576) :
    Calls Tryd.prog 3 #[wantV X vm vs, v1, v2, v3] w fun e w' => e = .returned (.bool true) ∧ Below w.heap.size w w' :=
  busyFinds_walk X vm vs v1 v2 v3 L1 L2 L3 w hT hm hs h1 h2 h3 (by omega) (by omega) hz3 iSt
end Go.Proofs.YtbmndenopgkpoaaDoor
