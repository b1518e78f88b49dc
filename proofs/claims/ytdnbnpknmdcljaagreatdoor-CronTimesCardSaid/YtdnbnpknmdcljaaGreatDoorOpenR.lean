/- Arguments opened with the form's reach: structs of one-cell fields, slices of numbers. -/
import Derived.Test.YtdnbnpknmdcljaaGreatDoorTell
import Derived.Deep.Matrix
import Derived.Deep.Fields
import Derived.ChangeSame
import Derived.Lib.SmallJoins
import Derived.SizedLaws
namespace Go.Proofs.YtdnbnpknmdcljaaGreatDoor
open Go.ChangeShapes Go.WideShapes Go.ChangeAt Go.RowKit Go.Joins Go.Deep
theorem open_aggN {H : Type} {enc : TypeId × Value → H} {P : Program} {w : World} {base : Nat} {spare : Nat → Bool} {held : Bool} {r : Reach} {b0 : Nat} {t : TypeId} {fs : Array Field} {v : Value} {d : DataW H} {p : List MemPlace}
    (hs : P.underlying t = some (.struct fs)) (hone : oneCellFields P fs = true) (hC : P.cellsOf t = fs.size)
    (hv : Value.okWide P w r b0 t v) (h : DataW.Trod enc P w base spare held t v d p) :
    ∃ (l : List Value) (ys : List (DataW H × List MemPlace)) (n : Nat), v = .agg ⟨l⟩ ∧ l.length = fs.size ∧ ys.length = fs.size ∧ d = .agg (ys.map (·.1)) ∧
      ∀ (j : Nat) (f : Field), fs[j]? = some f → ∃ (u : Value) (y : DataW H × List MemPlace), l[j]? = some u ∧ ys[j]? = some y ∧ DataW.trod enc P w base spare held n f.type [u] = some y := by
  obtain ⟨⟨l⟩, rfl, hsz⟩ := okWide_struct hs hv
  obtain ⟨fuel, hf⟩ := h
  obtain ⟨xs, n, _, hx, hl, hlen, hr⟩ := DataW.trod_struct hs hf
  have hll : l.length = fs.size := hsz.trans hC
  refine ⟨l, xs, n, rfl, hll, hlen, by simpa using congrArg Prod.fst hx, fun j f hj => ?_⟩
  have hjl : j < fs.size := (Array.getElem?_eq_some_iff.1 hj).1
  obtain ⟨ho, hk⟩ := hone_of hone j f hj
  have h1 := hr j f hj
  simp only [Value.cells] at h1
  rw [ho, hk] at h1
  have hone' : (l.drop j).take 1 = [l[j]'(by omega)] := by
    rw [List.drop_eq_getElem_cons (by omega)]
    rfl
  have h1' : DataW.trod enc P w base spare held n f.type ((l.drop j).take 1) = xs[j]? := h1
  rw [hone'] at h1'
  exact ⟨_, _, List.getElem?_eq_getElem (by omega), List.getElem?_eq_getElem (by omega), h1'.trans (List.getElem?_eq_getElem (by omega))⟩
theorem open_aggU {H : Type} {enc : TypeId × Value → H} {P : Program} {w : World} {base : Nat} {spare : Nat → Bool} {held : Bool} {r : Reach} {b0 : Nat} {t : TypeId} {fs : Array Field} {v : Value} {d : DataW H} {p : List MemPlace}
    (hs : P.underlying t = some (.struct fs)) (hone : oneCellFields P fs = true) (hC : P.cellsOf t = fs.size)
    (hv : Value.okWide P w r b0 t v) (h : DataW.Trod enc P w base spare held t v d p) (hr : ∀ n ∈ d.weights P t, n ≤ 140737488351232) :
    ∃ (l : List Value) (ys : List (DataW H × List MemPlace)) (n : Nat), v = .agg ⟨l⟩ ∧ l.length = fs.size ∧ ys.length = fs.size ∧ d = .agg (ys.map (·.1)) ∧
      ∀ (j : Nat) (f : Field) (u : Value) (y : DataW H × List MemPlace), fs[j]? = some f → l[j]? = some u → ys[j]? = some y → DataW.trod enc P w base spare held n f.type [u] = some y ∧ ∀ k ∈ y.1.weights P f.type, k ≤ 140737488351232 := by
  obtain ⟨l, ys, n, rfl, h1, h2, rfl, h3⟩ := open_aggN hs hone hC hv h
  refine ⟨l, ys, n, rfl, h1, h2, rfl, fun j f u y hf hu hy => ?_⟩
  obtain ⟨u', y', e1, e2, e3⟩ := h3 j f hf
  rw [hu] at e1
  rw [hy] at e2
  cases e1
  cases e2
  exact ⟨e3, fun k hk => hr k (by simp only [DataW.weights, hs]; exact DataW.weights_mem_each (j := j) (by rw [List.getElem?_map, Array.getElem?_toList, hf]; rfl) (by rw [List.getElem?_map, hy]; rfl) k hk)⟩
theorem reach_le {H : Type} {P : Program} {ts : List TypeId} {ds : List (DataW H)} (h : (DataW.weightsEach P ts ds).all (· ≤ reachBytes) = true) {j : Nat} {t : TypeId} {d : DataW H} (ht : ts[j]? = some t) (hd : ds[j]? = some d) : ∀ n ∈ d.weights P t, n ≤ 140737488351232 := fun n hn => by
  have := List.all_eq_true.1 h _ (DataW.weights_mem_each ht hd n hn)
  have e : reachBytes = 140737488351232 := rfl
  rw [← e]
  simpa using this
theorem reach_field {H : Type} {P : Program} {t : TypeId} {fs : Array Field} (hs : P.underlying t = some (.struct fs)) {ys : List (DataW H)} (h : ∀ n ∈ (DataW.agg ys).weights P t, n ≤ 140737488351232) {j : Nat} {f : Field} {d : DataW H} (hf : fs[j]? = some f) (hd : ys[j]? = some d) : ∀ n ∈ d.weights P f.type, n ≤ 140737488351232 := fun n hn => by
  refine h n ?_
  simp only [DataW.weights, hs]
  exact DataW.weights_mem_each (j := j) (by rw [List.getElem?_map, Array.getElem?_toList, hf]; rfl) hd n hn
/-- A list's length by the reach: z bytes an element. -/
theorem reach_slice {H : Type} {P : Program} {t e : TypeId} (hu : P.underlying t = some (.slice e)) {elems spare : List (DataW H)} (h : ∀ n ∈ (DataW.slice elems spare).weights P t, n ≤ 140737488351232) : elems.length * P.bytesOf e ≤ 140737488351232 := by
  have := h ((elems.length + spare.length) * P.bytesOf e) (by simp [DataW.weights, hu])
  rw [Nat.add_mul] at this
  omega
end Go.Proofs.YtdnbnpknmdcljaaGreatDoor
