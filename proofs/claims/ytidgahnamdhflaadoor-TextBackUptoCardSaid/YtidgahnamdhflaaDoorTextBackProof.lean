/- The law TextBack: the row and its card. For every input the law returns true, and the input reads as it did. -/
import Derived.Test.YtidgahnamdhflaaDoorFrame
import Derived.Deep.Strs
import Derived.ChangeSame
import Derived.Deep.Matrix
import Derived.Deep.Fields
import Derived.Test.YtidgahnamdhflaaDoorTbkC
namespace Go.Proofs.YtidgahnamdhflaaDoor
open Go.ChangeShapes Go.WideShapes Go.ChangeAt Go.RowKit Go.Joins Go.Deep Fld Prt
theorem bulk_at {H : Type} (D : Nat → DataW H) : ∀ (n i : Nat), i < n → Rows.uptoBulk (D i) ≤ Rows.uptoBulkAll ((List.range n).map D) := by
  have app : ∀ (l : List (DataW H)) (d : DataW H), Rows.uptoBulkAll (l ++ [d]) = Rows.uptoBulkAll l + Rows.uptoBulk d := by
    intro l d
    induction l with
    | nil => simp [Rows.uptoBulkAll]
    | cons a l ih => rw [List.cons_append, Rows.uptoBulkAll, ih, Rows.uptoBulkAll]; omega
  intro n
  induction n with
  | zero => intro i h; exact absurd h (Nat.not_lt_zero i)
  | succ n ih =>
    intro i h
    rw [List.range_succ, List.map_append, List.map_cons, List.map_nil, app]
    by_cases he : i = n
    · subst he; omega
    · have := ih i (by omega); omega
theorem sum_bulk {H : Type} {α : Type} (D : Nat → DataW H) (q : Nat → α) (bk : α → Nat) : ∀ n, (∀ i, i < n → bk (q i) ≤ Rows.uptoBulk (D i)) → sumB bk ((List.range n).map q) ≤ Rows.uptoBulkAll ((List.range n).map D) := by
  have app : ∀ (l : List (DataW H)) (d : DataW H), Rows.uptoBulkAll (l ++ [d]) = Rows.uptoBulkAll l + Rows.uptoBulk d := by
    intro l d
    induction l with
    | nil => simp [Rows.uptoBulkAll]
    | cons a l ih => rw [List.cons_append, Rows.uptoBulkAll, ih, Rows.uptoBulkAll]; omega
  have app2 : ∀ (l : List α) (d : α), sumB bk (l ++ [d]) = sumB bk l + bk d := by
    intro l d
    induction l with
    | nil => simp [sumB]
    | cons a l ih => rw [List.cons_append, sumB, ih, sumB]; omega
  intro n
  induction n with
  | zero => intro _; exact Nat.le_refl _
  | succ n ih =>
    intro h
    have h1 := ih fun i hi => h i (by omega)
    have h2 := h n (by omega)
    simp only [List.range_succ, List.map_append, List.map_cons, List.map_nil]
    rw [app, app2]
    omega
/-- A slice that came in, each thing by a relation. -/
theorem open_list {H : Type} {enc : TypeId × Value → H} {P : Program} {W : World} {base : Nat} {held : Bool} {t e : TypeId} {fuel : Nat} {v : Value} {x : DataW H × List MemPlace} {α : Type} (d0 : α) (R : α → List Value → Prop) (bk : α → Nat) (ht : P.underlying t = some (.slice e)) (h : DataW.trod enc P W base (fun _ => true) held fuel t [v] = some x)
    (each : ∀ n cs y, DataW.trod enc P W base (fun _ => true) held n e cs = some y → Rows.uptoBulk y.1 + 1 ≤ Rows.uptoBulk x.1 → ∃ q, R q cs ∧ bk q ≤ Rows.uptoBulk y.1) :
    ∃ (oa : Option Addr) (cap : Nat) (L : List α), v = .slice oa L.length cap ∧ (0 < L.length → ∃ a, oa = some a) ∧ (∀ a, oa = some a → ∀ i, i < L.length → ∃ cs, W.cells? base (a.add (i * P.cellsOf e)) (P.cellsOf e) = some cs ∧ R (L.getD i d0) cs) ∧ sumB bk L + 1 ≤ Rows.uptoBulk x.1 := by
  rcases open_slice ht h with ⟨hcs, rfl⟩ | ⟨a, len, cap, m, n, D, Pl, hcs, hb, hl, hm, hmm, rfl, hi⟩
  · obtain rfl : v = .slice none 0 0 := by simpa using hcs
    exact ⟨none, 0, [], rfl, fun h => absurd h (Nat.lt_irrefl 0), (fun a h => by cases h), by simp [sumB, Rows.uptoBulk]⟩
  · obtain rfl : v = .slice (some a) len cap := by simpa using hcs
    simp only [if_true] at hmm
    have one : ∀ i, i < len → ∃ q, (∃ cs, W.cells? base (a.add (i * P.cellsOf e)) (P.cellsOf e) = some cs ∧ R q cs) ∧ bk q ≤ Rows.uptoBulk (D i) := fun i hil => by
      obtain ⟨cs, h1, h2⟩ := hi i (by omega)
      have hle := bulk_at D len i hil
      obtain ⟨q, hq, hb2⟩ := each n cs _ h2 (by simp only [Rows.uptoBulk]; omega)
      exact ⟨q, ⟨cs, h1, hq⟩, hb2⟩
    have : Inhabited α := ⟨d0⟩
    obtain ⟨q, hq⟩ := choose_lt one
    have hll : ((List.range len).map q).length = len := by simp
    refine ⟨some a, cap, (List.range len).map q, by rw [hll], fun _ => ⟨a, rfl⟩, fun b hb => ?_, ?_⟩
    · injection hb with hb
      subst hb
      intro i hi
      rw [hll] at hi
      have := (hq i hi).1
      rw [show ((List.range len).map q).getD i d0 = q i by simp [List.getD, hi]]
      exact this
    · have := sum_bulk D q bk len fun i hi => (hq i hi).2
      simp only [Rows.uptoBulk]
      omega
/-- A struct of one-cell fields. -/
theorem open_fields {H : Type} {enc : TypeId × Value → H} {P : Program} {w : World} {base : Nat} {spare : Nat → Bool} {held : Bool} {t : TypeId} {fs : Array Field} {fuel : Nat} {cs : List Value} {x : DataW H × List MemPlace}
    (hs : P.underlying t = some (.struct fs)) (hone : oneCellFields P fs = true) (hC : P.cellsOf t = fs.size) (h : DataW.trod enc P w base spare held fuel t cs = some x) :
    ∃ (ys : List (DataW H × List MemPlace)) (n : Nat), cs.length = fs.size ∧ ys.length = fs.size ∧ x.1 = .agg (ys.map (·.1)) ∧
      ∀ (j : Nat) (f : Field), fs[j]? = some f → ∃ (u : Value) (y : DataW H × List MemPlace), cs[j]? = some u ∧ ys[j]? = some y ∧ DataW.trod enc P w base spare held n f.type [u] = some y := by
  obtain ⟨xs, n, _, hx, hl, hlen, hr⟩ := DataW.trod_struct hs h
  have hll : cs.length = fs.size := hl.trans hC
  refine ⟨xs, n, hll, hlen, by rw [hx], fun j f hj => ?_⟩
  have hjl : j < fs.size := (Array.getElem?_eq_some_iff.1 hj).1
  obtain ⟨ho, hk⟩ := hone_of hone j f hj
  have h1 := hr j f hj
  rw [ho, hk] at h1
  have hone' : (cs.drop j).take 1 = [cs[j]'(by omega)] := by
    rw [List.drop_eq_getElem_cons (by omega)]
    rfl
  rw [hone'] at h1
  exact ⟨_, _, List.getElem?_eq_getElem (by omega), List.getElem?_eq_getElem (by omega), h1.trans (List.getElem?_eq_getElem (by omega))⟩
theorem two_of {α : Type} {l : List α} (h : l.length = 2) {a b : α} (h0 : l[0]? = some a) (h1 : l[1]? = some b) : l = [a, b] := by
  match l, h with
  | [x, y], _ => simp at h0 h1; rw [h0, h1]
theorem three_of {α : Type} {l : List α} (h : l.length = 3) {a b c : α} (h0 : l[0]? = some a) (h1 : l[1]? = some b) (h2 : l[2]? = some c) : l = [a, b, c] := by
  match l, h with
  | [x, y, z], _ => simp at h0 h1 h2; rw [h0, h1, h2]
theorem cells_of {W : World} {base : Nat} {a : Addr} {n : Nat} {cs : List Value} (h : W.cells? base a n = some cs) (j : Nat) (u : Value) (hu : cs[j]? = some u) : W.cell? (a.add j) = some u := by
  obtain ⟨_, hcl, hat⟩ := World.cells?_some h
  have hj : j < n := by rw [← hcl]; exact (List.getElem?_eq_some_iff.1 hu).1
  rw [hat j hj, hu]
set_option maxRecDepth 100000 in
theorem open_vstr {H : Type} {enc : TypeId × Value → H} {W : World} {base fuel : Nat} {held : Bool} {v : Value} {x : DataW H × List MemPlace} (h : DataW.trod enc Tryd.prog W base (fun _ => true) held fuel 39 [v] = some x) :
    ∃ L, VStr W.heap.size W v L ∧ sumB bkV L + 1 ≤ Rows.uptoBulk x.1 := by
  obtain ⟨oa, cap, L, rfl, h1, h2, h3⟩ := open_list (⟨#[]⟩ : ByteArray) (fun q cs => cs = [.string q]) bkV Tryd.underlying39 h fun n cs y hy _ => by
    obtain ⟨s, rfl, hx, _⟩ := DataW.trod_string Tryd.underlying9 hy
    exact ⟨s, rfl, by rw [hx]; simp only [Rows.uptoBulk]; rw [len_eq]; exact Nat.le_refl _⟩
  have hce : Tryd.prog.cellsOf 9 = 1 := by kernel_rfl
  have cell : ∀ a, oa = some a → ∀ i, i < L.length → W.cell? (a.add i) = some (.string (L.getD i ⟨#[]⟩)) := fun a ha i hi => by
    obtain ⟨cs, g1, g2⟩ := h2 a ha i hi
    rw [hce, Nat.mul_one] at g1
    have := cells_of g1 0 _ (by rw [g2]; rfl)
    simpa [Go.Deep.add_add] using this
  refine ⟨L, ⟨oa, cap, rfl, h1, fun a ha => ⟨fun h0 => ?_, cell a ha⟩⟩, h3⟩
  have := World.block_lt_of_cell? _ _ (cell a ha 0 h0)
  rwa [padd_block] at this
set_option maxRecDepth 100000 in
theorem open_vprm {H : Type} {enc : TypeId × Value → H} {W : World} {base fuel : Nat} {held : Bool} {v : Value} {x : DataW H × List MemPlace} (h : DataW.trod enc Tryd.prog W base (fun _ => true) held fuel 62 [v] = some x) :
    ∃ L, VPrm W.heap.size W v L ∧ sumB bkX L + 1 ≤ Rows.uptoBulk x.1 := by
  obtain ⟨oa, cap, L, rfl, h1, h2, h3⟩ := open_list prm0 (fun q cs => ∃ u, cs = [.string q.name, u] ∧ VStr W.heap.size W u q.vals) bkX Tryd.underlying62 h fun n cs y hy _ => by
    obtain ⟨ys, n', hcl, hyl, hx, hf⟩ := open_fields Tryd.underlying66 (by kernel_rfl) (by kernel_rfl) hy
    obtain ⟨u0, y0, a0, b0, t0⟩ := hf 0 _ rfl
    obtain ⟨u1, y1, a1, b1, t1⟩ := hf 1 _ rfl
    obtain ⟨s, e0, rfl, _⟩ := DataW.trod_string Tryd.underlying9 t0
    obtain ⟨vs, g1, g2⟩ := open_vstr t1
    obtain rfl : u0 = .string s := by simpa using e0
    refine ⟨⟨s, vs⟩, ⟨u1, two_of hcl a0 a1, g1⟩, ?_⟩
    rw [hx, two_of hyl b0 b1]
    simp only [List.map_cons, List.map_nil, Rows.uptoBulk, Rows.uptoBulkAll, len_eq]
    unfold bkX
    simp only
    omega
  have hce : Tryd.prog.cellsOf 66 = 2 := by kernel_rfl
  have cell : ∀ a, oa = some a → ∀ i, i < L.length → W.cell? (a.add (i * 2)) = some (.string (L.getD i prm0).name) ∧ ∃ u, W.cell? ((a.add (i * 2)).add 1) = some u ∧ VStr W.heap.size W u (L.getD i prm0).vals := fun a ha i hi => by
    obtain ⟨cs, g1, u, g2, g3⟩ := h2 a ha i hi
    rw [hce] at g1
    have q0 := cells_of g1 0 _ (by rw [g2]; rfl)
    have q1 := cells_of g1 1 _ (by rw [g2]; rfl)
    exact ⟨by simpa [Go.Deep.add_add] using q0, u, q1, g3⟩
  refine ⟨L, ⟨oa, cap, rfl, h1, fun a ha => ⟨fun h0 => ?_, cell a ha⟩⟩, h3⟩
  have := World.block_lt_of_cell? _ _ (cell a ha 0 h0).1
  rwa [padd_block] at this
set_option maxRecDepth 100000 in
theorem open_vln {H : Type} {enc : TypeId × Value → H} {W : World} {base fuel : Nat} {held : Bool} {v : Value} {x : DataW H × List MemPlace} (h : DataW.trod enc Tryd.prog W base (fun _ => true) held fuel 22 [v] = some x) :
    ∃ L, VLn W.heap.size W v L ∧ sumB bkL L + 1 ≤ Rows.uptoBulk x.1 := by
  obtain ⟨oa, cap, L, rfl, h1, h2, h3⟩ := open_list ln0 (fun q cs => ∃ u, cs = [.string q.name, u, .string q.value] ∧ VPrm W.heap.size W u q.prms) bkL Tryd.underlying22 h fun n cs y hy _ => by
    obtain ⟨ys, n', hcl, hyl, hx, hf⟩ := open_fields Tryd.underlying64 (by kernel_rfl) (by kernel_rfl) hy
    obtain ⟨u0, y0, a0, b0, t0⟩ := hf 0 _ rfl
    obtain ⟨u1, y1, a1, b1, t1⟩ := hf 1 _ rfl
    obtain ⟨u2, y2, a2, b2, t2⟩ := hf 2 _ rfl
    obtain ⟨s, e0, rfl, _⟩ := DataW.trod_string Tryd.underlying9 t0
    obtain ⟨s2, e2, rfl, _⟩ := DataW.trod_string Tryd.underlying9 t2
    obtain ⟨vs, g1, g2⟩ := open_vprm t1
    obtain rfl : u0 = .string s := by simpa using e0
    obtain rfl : u2 = .string s2 := by simpa using e2
    refine ⟨⟨s, vs, s2⟩, ⟨u1, three_of hcl a0 a1 a2, g1⟩, ?_⟩
    rw [hx, three_of hyl b0 b1 b2]
    simp only [List.map_cons, List.map_nil, Rows.uptoBulk, Rows.uptoBulkAll, len_eq]
    unfold bkL
    simp only
    omega
  have hce : Tryd.prog.cellsOf 64 = 3 := by kernel_rfl
  have cell : ∀ a, oa = some a → ∀ i, i < L.length → W.cell? (a.add (i * 3)) = some (.string (L.getD i ln0).name) ∧ (∃ u, W.cell? ((a.add (i * 3)).add 1) = some u ∧ VPrm W.heap.size W u (L.getD i ln0).prms) ∧ W.cell? ((a.add (i * 3)).add 2) = some (.string (L.getD i ln0).value) := fun a ha i hi => by
    obtain ⟨cs, g1, u, g2, g3⟩ := h2 a ha i hi
    rw [hce] at g1
    have q0 := cells_of g1 0 _ (by rw [g2]; rfl)
    have q1 := cells_of g1 1 _ (by rw [g2]; rfl)
    have q2 := cells_of g1 2 _ (by rw [g2]; rfl)
    exact ⟨by simpa [Go.Deep.add_add] using q0, ⟨u, q1, g3⟩, q2⟩
  refine ⟨L, ⟨oa, cap, rfl, h1, fun a ha => ⟨fun h0 => ?_, cell a ha⟩⟩, h3⟩
  have := World.block_lt_of_cell? _ _ (cell a ha 0 h0).1
  rwa [padd_block] at this
theorem bkPs_sum (l : List Part) : bkPs l = sumB bkP l := by
  induction l with
  | nil => rfl
  | cons p l ih => rw [bkPs, sumB, ih]
set_option maxRecDepth 100000 in
theorem open_part {H : Type} {enc : TypeId × Value → H} {W : World} {base : Nat} {held : Bool} : ∀ (N : Nat) (fuel : Nat) (cs : List Value) (x : DataW H × List MemPlace), DataW.trod enc Tryd.prog W base (fun _ => true) held fuel 25 cs = some x → Rows.uptoBulk x.1 ≤ N →
    ∃ (p : Part) (u v : Value), cs = [.string p.name, u, v] ∧ (∀ k, PartR W.heap.size k W u v p) ∧ bkP p ≤ Rows.uptoBulk x.1 := by
  intro N
  induction N with
  | zero =>
    intro fuel cs x h hN
    obtain ⟨ys, n', hcl, hyl, hx, hf⟩ := open_fields Tryd.underlying25 (by kernel_rfl) (by kernel_rfl) h
    rw [hx] at hN
    simp only [Rows.uptoBulk] at hN
    omega
  | succ N ih =>
    intro fuel cs x h hN
    obtain ⟨ys, n', hcl, hyl, hx, hf⟩ := open_fields Tryd.underlying25 (by kernel_rfl) (by kernel_rfl) h
    obtain ⟨u0, y0, a0, b0, t0⟩ := hf 0 _ rfl
    obtain ⟨u1, y1, a1, b1, t1⟩ := hf 1 _ rfl
    obtain ⟨u2, y2, a2, b2, t2⟩ := hf 2 _ rfl
    have hxx := hx
    rw [three_of hyl b0 b1 b2] at hxx
    obtain ⟨s, e0, rfl, _⟩ := DataW.trod_string Tryd.underlying9 t0
    obtain rfl : u0 = .string s := by simpa using e0
    obtain ⟨ls, g1, g2⟩ := open_vln t1
    have hy2 : Rows.uptoBulk y2.1 ≤ N := by
      rw [hxx] at hN
      simp only [List.map_cons, List.map_nil, Rows.uptoBulk, Rows.uptoBulkAll] at hN
      omega
    obtain ⟨oa, cap, ps, rfl, h1, h2, h3⟩ := open_list part0 (fun q cs => ∃ u v, cs = [.string q.name, u, v] ∧ ∀ k, PartR W.heap.size k W u v q) bkP Tryd.underlying23 t2 fun n cs y hy hle => by
      obtain ⟨q, u, v, k1, k2, k3⟩ := ih n cs y hy (by omega)
      exact ⟨q, ⟨u, v, k1, k2⟩, k3⟩
    have hce : Tryd.prog.cellsOf 25 = 3 := by kernel_rfl
    have cell : ∀ a, oa = some a → ∀ i, i < ps.length → W.cell? (a.add (i * 3)) = some (.string (ps.getD i part0).name) ∧ ∃ u2 v2, W.cell? ((a.add (i * 3)).add 1) = some u2 ∧ W.cell? ((a.add (i * 3)).add 2) = some v2 ∧ ∀ k, PartR W.heap.size k W u2 v2 (ps.getD i part0) := fun a ha i hi => by
      obtain ⟨cs, g1, u, v, g2, g3⟩ := h2 a ha i hi
      rw [hce] at g1
      have q0 := cells_of g1 0 _ (by rw [g2]; rfl)
      have q1 := cells_of g1 1 _ (by rw [g2]; rfl)
      have q2 := cells_of g1 2 _ (by rw [g2]; rfl)
      exact ⟨by simpa [Go.Deep.add_add] using q0, u, v, q1, q2, g3⟩
    refine ⟨.mk s ls ps, u1, .slice oa ps.length cap, three_of hcl a0 a1 a2, fun k => ?_, ?_⟩
    · cases k with
      | zero =>
        obtain ⟨ob, c2, e, -⟩ := g1
        exact ⟨⟨ob, c2, e⟩, oa, cap, rfl⟩
      | succ k =>
        refine ⟨g1, oa, cap, rfl, h1, fun a ha => ⟨fun h0 => ?_, fun i hi => ?_⟩⟩
        · have := World.block_lt_of_cell? _ _ (cell a ha 0 h0).1
          rwa [padd_block] at this
        · obtain ⟨q0, u2, v2, q1, q2, q3⟩ := cell a ha i hi
          exact ⟨q0, u2, v2, q1, q2, q3 k⟩
    · rw [hxx]
      simp only [List.map_cons, List.map_nil, Rows.uptoBulk, Rows.uptoBulkAll, len_eq]
      rw [bkP, bkPs_sum]
      omega
set_option maxRecDepth 100000 in
theorem open_partA {H : Type} {enc : TypeId × Value → H} {W : World} {b0 : Nat} {r : Reach} {v : Value} {d : DataW H} {p : List MemPlace} (hv : Value.okWide Tryd.prog W r b0 25 v) (h : DataW.Trod enc Tryd.prog W 0 (fun _ => true) true 25 v d p) :
    ∃ (q : Part) (u u2 : Value), v = .agg #[.string q.name, u, u2] ∧ (∀ k, PartR W.heap.size k W u u2 q) ∧ bkP q ≤ Rows.uptoBulk d := by
  obtain ⟨⟨l⟩, rfl, hsz⟩ := okWide_struct Tryd.underlying25 hv
  obtain ⟨fuel, hf⟩ := h
  simp only [Value.cells] at hf
  obtain ⟨q, u, u2, h1, h2, h3⟩ := open_part (Rows.uptoBulk d) fuel l (d, p) hf (Nat.le_refl _)
  exact ⟨q, u, u2, by rw [h1], h2, h3⟩
end Go.Proofs.YtidgahnamdhflaaDoor
namespace Go.Proofs.YtidgahnamdhflaaDoor
open Go.ChangeShapes Go.WideShapes Go.ChangeAt Go.RowKit Go.Joins Go.Deep Fld
theorem bulk_strs {H : Type} (L : List ByteArray) : totN L ≤ Rows.uptoBulkAll (L.map fun s => (DataW.lit (.string s.data.toList) : DataW H)) := by
  unfold totN lists
  induction L with
  | nil => simp
  | cons x L ih =>
    simp only [List.map_cons, List.flatten_cons, List.length_append, Rows.uptoBulkAll, Rows.uptoBulk]
    omega
set_option maxRecDepth 100000 in
theorem open_strsA {H : Type} {enc : TypeId × Value → H} {W : World} {b0 : Nat} {r : Reach} {v : Value} {d : DataW H} {p : List MemPlace} (hv : Value.okWide Tryd.prog W r b0 39 v) (h : DataW.Trod enc Tryd.prog W 0 (fun _ => true) true 39 v d p) :
    ∃ (oa : Option Addr) (cap : Nat) (L : List ByteArray), v = .slice oa L.length cap ∧ L.length ≤ 9223372036854775807 ∧ StrsR W oa L ∧ totN L ≤ Rows.uptoBulk d := by
  obtain ⟨a0, len, cap, rfl⟩ := okWide_slice Tryd.underlying39 hv
  obtain ⟨fuel, hf⟩ := h
  rcases open_strs Tryd.underlying39 Tryd.underlying9 (by kernel_rfl) hf with ⟨hcs, _⟩ | ⟨a, len', cap', m, Sx, hcs, hb', hl', hm', hm, hx, hcell⟩
  · simp [Value.cells] at hcs
    obtain ⟨rfl, rfl, rfl⟩ := hcs
    exact ⟨none, 0, [], rfl, by simp, ⟨fun h => absurd h (Nat.lt_irrefl 0), fun a h => by cases h⟩, by simp [totN, lists]⟩
  · simp [Value.cells] at hcs
    obtain ⟨rfl, rfl, rfl⟩ := hcs
    simp only [if_true] at hm
    subst hm
    unfold maxLen at hm'
    have hd : d = .slice ((List.range len).map fun i => .lit (.string (Sx i).data.toList)) ((List.range (m - len)).map fun j => .lit (.string (Sx (len + j)).data.toList)) := congrArg Prod.fst hx
    have hl : ((List.range len).map Sx).length = len := by simp
    refine ⟨some a, m, (List.range len).map Sx, by rw [hl], by rw [hl]; omega, ⟨fun _ => ⟨a, rfl⟩, fun b hb => ?_⟩, ?_⟩
    · injection hb with hb
      subst hb
      rw [hl]
      refine ⟨fun h0 => ?_, fun i hi => ?_⟩
      · have := World.block_lt_of_cell? _ _ (hcell 0 (by omega)).1
        rwa [add_block] at this
      · rw [(hcell i (by omega)).1]
        simp [List.getD, hi]
    · rw [hd]
      have h1 := bulk_strs (H := H) ((List.range len).map Sx)
      rw [List.map_map] at h1
      simp only [Rows.uptoBulk]
      exact Nat.le_trans h1 (by show Rows.uptoBulkAll ((List.range len).map fun i => .lit (.string (Sx i).data.toList)) ≤ _; omega)
end Go.Proofs.YtidgahnamdhflaaDoor
namespace Go.Proofs.YtidgahnamdhflaaDoor.textBack
open Go.ChangeShapes Go.WideShapes Go.ChangeAt Go.RowKit Go.Joins
open Go.ChangeMaps (open_string shut_string)
/-- WHAT THE ROW's LIST GIVES. -/
theorem errT {W : World} (h : laidMetH Tryd.prog Rows.textBackUptoRow.laid W) : ErrT W := errT_handles (laidMetH_iff.1 h).2 (List.mem_filter.2 ⟨by simp [Rows.textBackUptoRow], by kernel_rfl⟩)
set_option maxRecDepth 100000 in
theorem contract (H : Type) (enc : TypeId × Value → H) (W : World) (base : Nat) (args : Array Value) (ds gs : List (DataW H)) (before : List MemPlace)
    (hval : ∀ (j : Nat) t v, Tryd.f5.params[j]? = some t → args[j]? = some v → Value.okWide Tryd.prog W .any base t v)
    (hW : DataW.Whole enc Tryd.prog Tryd.f5.params.toList Rows.textBackSpec.vars false W args.toList ds gs before) (hL : laidMetH Tryd.prog Rows.textBackUptoRow.laid W) (hk : Rows.uptoSmall H (ds ++ gs) = true) :
    Calls Tryd.prog 5 args W fun e W' => ∃ v, e = .returned v ∧ Rows.textBackSpec.post enc Tryd.prog Tryd.f5 false true false false W args v W' := by
  have hW' := hW
  obtain ⟨p, q, hA0, hV, rfl, hfz, hnd⟩ := hW
  have hA : DataW.TrodAll enc Tryd.prog W 0 (fun _ => true) true Tryd.f5.params.toList args.toList ds p := hA0
  rw [Tryd.params5] at hA hval
  obtain ⟨v0, vs0, d0, ds0, p0, q0, hargs, rfl, rfl, h0, r0⟩ := trodAll_cons hA
  obtain ⟨v1, vs1, d1, ds1, p1, q1, rfl, rfl, rfl, h1, r1⟩ := trodAll_cons r0
  obtain ⟨rfl, rfl, rfl⟩ := trodAll_nil r1
  obtain rfl : args = #[v0, v1] := Array.toList_inj.1 hargs
  obtain ⟨rfl, rfl⟩ := trodVars_none hV
  obtain ⟨q0, u0, w0, rfl, hR0, hB0⟩ := open_partA (hval 0 25 v0 rfl rfl) h0
  obtain ⟨oa1, cap1, L1, rfl, hm1, hs1, hz1⟩ := open_strsA (hval 1 39 v1 rfl rfl) h1
  have hk2 := of_decide_eq_true hk
  simp only [List.cons_append, List.nil_append, Rows.uptoBulkAll] at hk2
  exact law_done rfl rfl rfl (by kernel_rfl) hW' (textBack_walk q0 u0 w0 oa1 L1 L1.length cap1 W (errT hL)  (hR0 8) (Nat.le_trans hB0 (by omega)) rfl hm1 hs1 (Nat.le_trans hz1 (by omega)))
theorem laid_met (os : Os) : laidMetH Tryd.prog Rows.textBackUptoRow.laid ((laidWorld os).forCall (fun _ _ => 0) ⟨#[], #[.agg #[.string ByteArray.empty, .slice none 0 0, .slice none 0 0], .slice none 0 0], []⟩).memory :=
  laidMetH_of_parts (laidMet_of_run' 8 (by kernel_rfl) (by kernel_rfl)) (by kernel_rfl)
theorem reads (os : Os) {H : Type} (enc : TypeId × Value → H) : ∃ places, DataW.whole enc Tryd.prog ((laidWorld os).forCall (fun _ _ => 0) ⟨#[], #[.agg #[.string ByteArray.empty, .slice none 0 0, .slice none 0 0], .slice none 0 0], []⟩).memory Tryd.f5.params.toList Rows.textBackSpec.vars false (#[.agg #[.string ByteArray.empty, .slice none 0 0, .slice none 0 0], .slice none 0 0] : Array Value).toList 8 = some ([.agg [.lit (.string []), .nil, .nil], .nil], [], places) :=
  ⟨[], by kernel_rfl⟩
set_option maxRecDepth 100000 in
theorem lifted (os : Os) (started : os.Started) (H : Type) (enc : TypeId × Value → H) (F : Stop.Interp) :
    ReturnsInHanded {} Tryd.checked os 5 .any ((Rows.OpenSpec.upto Rows.textBackSpec).preRow enc Tryd.prog Tryd.f5 Rows.textBackUptoRow.domain false Rows.textBackUptoRow.laid) (((Rows.OpenSpec.upto Rows.textBackSpec).at F).post enc Tryd.prog Tryd.f5 false true false false) := by
  obtain ⟨places, hx⟩ := reads os enc
  refine returnsInHanded_of_row (C := Tryd.checked) (s := Rows.OpenSpec.upto Rows.textBackSpec) Tryd.own started (by kernel_rfl) Tryd.func5
    (witness_row_at (enc := enc) (C := Tryd.checked) false (laidWorld os) #[.agg #[.string ByteArray.empty, .slice none 0 0, .slice none 0 0], .slice none 0 0] rfl (by kernel_rfl) (by kernel_rfl) (by kernel_rfl)
      (OpenSpec.preRow_of_cond 8 hx (by kernel_rfl) (fun k hk => by cases hk; kernel_rfl) (by kernel_rfl) (laid_met os))) ?_
  intro W base args ds gs before hval hW _ hk _ hL _ _
  exact contract H enc W base args ds gs before hval hW hL (hk _ rfl)
theorem said : Rows.TextBackUptoSaid :=
  OpenClaim.holds_of_cond 5 Tryd.f5 rfl rfl rfl rfl rfl rfl rfl ⟨rfl, rfl, rfl, rfl, rfl⟩ rfl rfl rfl rfl rfl (by kernel_rfl) Tryd.func5 (by kernel_rfl)
    (of_decide_eq_true (by kernel_rfl)) (by unfold Func.isWrapper; first | (rw [if_pos (by decide +kernel)]; kernel_rfl) | (rw [if_neg (by decide +kernel)]; exact ⟨rfl, rfl⟩))
    (fun os started H enc _ F => by rw [OpenClaim.pre_eq_preRow]; exact lifted os started H enc F)
theorem plain (f : FuncId) (fn : Func) (hf : Tryd.pinned.checked.prog.funcNamed "almanac/almanackeep.TextBack" = some f) (hfn : Tryd.pinned.checked.prog.funcs[f]? = some fn) :
    true = Tryd.pinned.checked.prog.looks [] ∧ ∀ (j : Nat) t, fn.params[j]? = some t → Tryd.pinned.checked.prog.wantsStandIn t = false := by
  obtain rfl : f = 5 := Option.some.inj ((show Tryd.prog.funcNamed "almanac/almanackeep.TextBack" = some 5 by kernel_rfl).symm.trans hf) |>.symm
  obtain rfl : fn = Tryd.f5 := (Option.some.inj (Tryd.func5.symm.trans hfn)).symm
  refine ⟨by kernel_rfl, fun j t ht => ?_⟩
  have h := (show Tryd.f5.params.all (fun t => !Tryd.prog.wantsStandIn t) = true by kernel_rfl)
  have := Array.all_eq_true_iff_forall_mem.1 h t (Array.mem_of_getElem? ht)
  show Tryd.prog.wantsStandIn t = false
  simpa using this
end Go.Proofs.YtidgahnamdhflaaDoor.textBack
namespace Go.Proofs.YtidgahnamdhflaaDoor
open Go.ChangeShapes Go.WideShapes Go.ChangeAt Go.RowKit
/-- THE CARD of TextBack. -/
theorem textBack_upto_card : Rows.TextBackUptoCardSaid :=
  Claim7.holds_tied_plain_at .later [] _ _ _ _ textBack.said (fun _ h => by cases h) (by kernel_rfl) (fun _ h => by cases h) textBackUpto_row_tie rfl ⟨rfl, rfl⟩ (by kernel_rfl) rfl textBack.plain (by kernel_rfl)
end Go.Proofs.YtidgahnamdhflaaDoor
