/- A map of the call's own, from numbers to values: a function. -/
import Derived.Test.YtbgcccfgcdkmdaaGreatDoorTell
import Derived.Maps.OwnSet
namespace Go.Proofs.YtbgcccfgcdkmdaaGreatDoor
open Go.RowKit Go.Maps
/-- A value reads as itself. -/
def tokR (v : Value) : Option (DataW Value × List MemPlace) := some (.held v, [])
/-- Block b is a map of at most n entries, from numbers to values: f. -/
def MapI (P : Program) (k : TypeId) (w : World) (b n : Nat) (f : Int → Option Value) : Prop :=
  ∃ D : DataW Value, w.ownsMap P k tokR b n D ∧ ∀ y, (Lit.int .i64 y).wf = true → has D (.int .i64 y) = (f y).isSome ∧ ∀ v, f y = some v → ∀ z, D.atKey (.int .i64 y) z = .held v
theorem MapI.made (P : Program) (k : TypeId) (w : World) : MapI P k (w.alloc (.map #[] 0)) w.heap.size 0 (fun _ => none) :=
  ⟨.map [], World.ownsMap_made w P k tokR, fun y _ => ⟨rfl, fun v h => by cases h⟩⟩
theorem MapI.lt {P : Program} {k : TypeId} {w : World} {b n : Nat} {f : Int → Option Value} (h : MapI P k w b n f) : b < w.heap.size := h.choose_spec.1.lt
theorem MapI.kept {P : Program} {k : TypeId} {w w' : World} {b n : Nat} {f : Int → Option Value} {row : Option Nat} (h : MapI P k w b n f) (hg : w.grownBy w' row) (hne : some b ≠ row) : MapI P k w' b n f := by
  obtain ⟨D, h1, h2⟩ := h
  exact ⟨D, h1.kept hg hne, h2⟩
theorem MapI.call {P : Program} {k : TypeId} {w w' : World} {b n : Nat} {f : Int → Option Value} (h : MapI P k w b n f) (hb : Below w.heap.size w w') : MapI P k w' b n f :=
  h.kept (row := none) ⟨hb.os, hb.tape, hb.output, hb.size, fun k hk _ => hb.block k hk⟩ (by simp)
theorem MapI.mono {P : Program} {k : TypeId} {w : World} {b n n' : Nat} {f : Int → Option Value} (h : MapI P k w b n f) (hn : n ≤ n') : MapI P k w b n' f := by
  obtain ⟨D, h1, h2⟩ := h
  exact ⟨D, h1.mono hn, h2⟩
theorem MapI.setCell {P : Program} {k : TypeId} {w : World} {b n : Nat} {f : Int → Option Value} (h : MapI P k w b n f) {a : Addr} (ha : b ≠ a.block) (u : Value) : MapI P k (w.setCell a u) b n f := by
  obtain ⟨D, h1, h2⟩ := h
  exact ⟨D, h1.setCell ha u, h2⟩
/-- 'v, ok := m[k]'. -/
theorem wpList_lookup_tok {P : Program} (w : World) {ops : Array Oper} {rest : List Oper} {o : Oper} {a : Act} {Q : Exit → Act → World → Prop} (hg : o.guard = none) (m x : Operand) (t : TypeId) (hop : o.op = Op.lookup t m x true)
    (k e : TypeId) (hk : P.underlying k = some (.int .i64)) (ht : P.underlying t = some (.map k e)) {z : Value} (hz : (zeroValue e).run P w = .ok z w) (b n : Nat) (f : Int → Option Value)
    (hm : a.eval m = .map (some b)) (hown : MapI P k w b n f) (y : Int) (hx : a.eval x = .int .i64 y) (hy : (Lit.int .i64 y).wf = true)
    (hK : wpList P ops Q rest (a.put o.dst (.tuple #[(f y).getD z, .bool (f y).isSome])) w) :
    wpList P ops Q (o :: rest) a w := by
  obtain ⟨D, hD, hf⟩ := hown
  have K : Keyed P k := int_keyed hk
  refine wpList_lookup_own_ok w hg m x t hop k e K ht tokR hz (.held z) [] rfl b n D hm hD _ _ hx (keyOf_int_mk hk hy) fun v ps hv => ?_
  obtain ⟨h1, h2⟩ := hf y hy
  have hv' : DataW.held v = D.atKey (.int .i64 y) (.held z) := by
    have := hv
    unfold tokR at this
    injection this with this
    injection this
  rw [h1]
  cases hfy : f y with
  | none =>
    rw [hfy] at h1 hK
    rw [atKey_of_not_has h1] at hv'
    injection hv' with hv'
    rw [hv']
    exact hK
  | some u =>
    rw [hfy] at hK
    rw [h2 u hfy] at hv'
    injection hv' with hv'
    rw [hv']
    exact hK
/-- 'm[k] = v'. -/
theorem wpList_mapUpdate_tok {P : Program} (w : World) {ops : Array Oper} {rest : List Oper} {o : Oper} {a : Act} {Q : Exit → Act → World → Prop} (hg : o.guard = none) (m x v : Operand) (t : TypeId) (hop : o.op = Op.mapUpdate t m x v)
    (k e : TypeId) (hk : P.underlying k = some (.int .i64)) (ht : P.underlying t = some (.map k e)) (b n : Nat) (f : Int → Option Value)
    (hm : a.eval m = .map (some b)) (hown : MapI P k w b n f) (hn : n < maxLen) (y : Int) (val : Value) (hx : a.eval x = .int .i64 y) (hv : a.eval v = val) (hy : (Lit.int .i64 y).wf = true)
    (hK : ∀ w', MapI P k w' b (n + 1) (fun q => if q = y then some val else f q) → w.grownBy w' (some b) → wpList P ops Q rest (a.put o.dst undef) w') :
    wpList P ops Q (o :: rest) a w := by
  obtain ⟨D, hD, hf⟩ := hown
  have K : Keyed P k := int_keyed hk
  have hkey := keyOf_int_mk hk hy
  refine wpList_mapUpdate_own w hg m x v t hop k e K ht tokR b n D hm hD hn _ val _ hx hv hkey (.held val) [] rfl fun w' h1 h2 => ?_
  refine hK w' ⟨_, h1, fun q hq => ?_⟩ h2
  dsimp only
  by_cases e : q = y
  · subst e
    rw [if_pos rfl]
    exact ⟨has_put_same hD.isMap (K.key hkey) _, fun u hu z => by cases hu; exact atKey_put_same hD.isMap (K.key hkey) _ z⟩
  · rw [if_neg e]
    have hne : Lit.int .i64 q ≠ Lit.int .i64 y := fun h => e (by injection h)
    refine ⟨(has_put_other hne _).trans (hf q hq).1, fun u hu z => ?_⟩
    rw [atKey_put_other hne]
    exact (hf q hq).2 u hu z
end Go.Proofs.YtbgcccfgcdkmdaaGreatDoor
