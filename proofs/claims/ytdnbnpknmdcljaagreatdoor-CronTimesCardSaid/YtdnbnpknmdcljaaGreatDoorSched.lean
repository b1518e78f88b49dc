/- A region that draws its order, walked by a schedule that is checked once: what only reads comes first, a call comes alone. After the guide's laws on held conditions (OrdersHeld, RegionHeld). -/
import Derived.Deep.RegionHeld3
namespace Go.Proofs.YtdnbnpknmdcljaaGreatDoor
open Go
section
variable {P : Program} {ops : Array Oper} {Q : Exit → Act → World → Prop} {md : Region.Mode} {S : World → Prop}
/-- One entry of a schedule: an operation, whether it is taken for its value alone, and what has come up before it. -/
def schedStep (md : Region.Mode) (ops : Array Oper) (x : Nat × Bool × List Bool) : Bool :=
  if x.2.1 then (Region.free md ops x.2.2.toArray x.1 && (Region.ready md ops x.2.2.toArray).contains x.1) else (Region.ready md ops x.2.2.toArray == [x.1])
/-- Each entry begins where the one before it ends; the last ends where nothing is left. -/
def schedLink : List (Nat × Bool × List Bool) → List Bool → List Bool → Bool
  | [], l, e => l == e
  | (i, _, l') :: r, l, e => (l == l') && schedLink r (l'.set i true) e
/-- The walk along the schedule. -/
def wpSched (P : Program) (ops : Array Oper) (Q : Exit → Act → World → Prop) (S : World → Prop) : List (Nat × Bool) → Act → World → Prop
  | [], a, w => Q .normal a w
  | (i, true) :: r, a, w => ∃ o v, ops[i]? = some o ∧ YieldsIf P ops S o v a ∧ wpSched P ops Q S r (a.put o.dst v) w
  | (i, false) :: r, a, w => wpOp P ops Q i (fun a' w' => S w' ∧ wpSched P ops Q S r a' w') a w
theorem wpAnyH_sched (hs : Region.noSelect ops = true) (hQ : ∀ (d : Option Tmp) (v : Value) c a w, Q (.panic c) (a.put d v) w → Q (.panic c) a w) :
    ∀ (sch : List (Nat × Bool × List Bool)) (l e : List Bool) (a : Act) (w : World), (∀ x ∈ sch, schedStep md ops x = true) → schedLink sch l e = true → Region.ready md ops e.toArray = [] → S w → wpSched P ops Q S (sch.map fun x => (x.1, x.2.1)) a w →
      wpAnyH P md ops Q S sch.length l.toArray a w
  | [], l, e, a, w, _, hB, he, _, h => wpAnyH_done (by rw [show l = e by simpa [schedLink] using hB]; exact he) h 0
  | (i, true, l') :: r, l, e, a, w, hA, hB, he, hS, h => by
    simp only [schedLink, Bool.and_eq_true, beq_iff_eq] at hB
    obtain ⟨rfl, hB'⟩ := hB
    obtain ⟨hA0, hA'⟩ := List.forall_mem_cons.1 hA
    simp only [schedStep, if_true, Bool.and_eq_true] at hA0
    obtain ⟨hf, hr⟩ := hA0
    obtain ⟨o, v, ho, hy, hk⟩ := h
    refine wpAnyH_take ho hs hf hr (hQ _ _) hy hS ?_
    rw [List.setIfInBounds_toArray]
    exact wpAnyH_sched hs hQ r _ e _ _ hA' hB' he hS hk
  | (i, false, l') :: r, l, e, a, w, hA, hB, he, hS, h => by
    simp only [schedLink, Bool.and_eq_true, beq_iff_eq] at hB
    obtain ⟨rfl, hB'⟩ := hB
    obtain ⟨hA0, hA'⟩ := List.forall_mem_cons.1 hA
    have hr : Region.ready md ops l.toArray = [i] := by simpa [schedStep] using hA0
    refine wpAnyH_all hr (by simp) ?_
    intro j hj
    obtain rfl : j = i := by simpa using hj
    refine wpOp_mono (fun a' w' hk => ⟨hk.1, ?_⟩) h
    rw [List.setIfInBounds_toArray]
    exact wpAnyH_sched hs hQ r _ e _ _ hA' hB' he hk.1 hk.2
/-- The beginning. -/
theorem wp_region_sched {id : Nat} {a : Act} {w : World} (sch : List (Nat × Bool × List Bool)) (l e : List Bool) (short : List (Nat × Bool)) (hm : P.follows .mixedOrders = true) (hs : Region.noSelect ops = true)
    (hQ : ∀ (d : Option Tmp) (v : Value) c a w, Q (.panic c) (a.put d v) w → Q (.panic c) a w)
    (hl : l = List.replicate ops.size false) (hn : sch.length = ops.size) (hA : ∀ x ∈ sch, schedStep .any ops x = true) (hB : schedLink sch l e = true) (he : Region.ready .any ops e.toArray = []) (hsh : sch.map (fun x => (x.1, x.2.1)) = short) (hS : S w.drew)
    (h : S w.drew → wpSched P ops Q S short a w.drew) : (Code.region id ops true).wp P Q a w := by
  refine wp_region_held_drew hm hS (fun hS' => ?_)
  have := wpAnyH_sched (Q := Q) (S := S) hs hQ sch l e a w.drew hA hB he hS' (by rw [hsh]; exact h hS')
  rw [hn, hl, List.toArray_replicate] at this
  exact this
theorem sched_q {i : Nat} {r : List (Nat × Bool)} {o : Oper} {v : Value} {a : Act} {w : World} (ho : ops[i]? = some o) (hw : Region.wanted o (yielded ops a.tmps) = true) (hv : ∀ w, S w → (execOp a.eval o).run P w = .ok (.value v) w)
    (h : wpSched P ops Q S r (a.put o.dst v) w) : wpSched P ops Q S ((i, true) :: r) a w := ⟨o, v, ho, Or.inl ⟨hw, hv⟩, h⟩
theorem sched_c {i : Nat} {r : List (Nat × Bool)} {o : Oper} {a : Act} {w : World} (ho : ops[i]? = some o)
    (h : ∀ K' : Act → World → Prop, Shut (∀ a w, S w → (S w → wpSched P ops Q S r a w) → K' a w) → if Region.wanted o (yielded ops a.tmps) = true then Oper.wp P o a w K' Q else K' (a.put o.dst undef) w) :
    wpSched P ops Q S ((i, false) :: r) a w := wpOp_step ho (fun K' hK => h K' (fun a w hS hW => hK a w ⟨hS, hW hS⟩))
/-- The same over a list that is written out: the operation is found by reading it. -/
theorem sched_ql {i : Nat} {r : List (Nat × Bool)} {l : List Oper} {o : Oper} {v : Value} {a : Act} {w : World} (ho : l[i]? = some o) (hw : Region.wanted o (yielded l.toArray a.tmps) = true) (hv : ∀ w, S w → (execOp a.eval o).run P w = .ok (.value v) w)
    (h : wpSched P l.toArray Q S r (a.put o.dst v) w) : wpSched P l.toArray Q S ((i, true) :: r) a w := sched_q (by simpa using ho) hw hv h
theorem sched_cl {i : Nat} {r : List (Nat × Bool)} {l : List Oper} {o : Oper} {a : Act} {w : World} (ho : l[i]? = some o)
    (h : ∀ K' : Act → World → Prop, Shut (∀ a w, S w → (S w → wpSched P l.toArray Q S r a w) → K' a w) → if Region.wanted o (yielded l.toArray a.tmps) = true then Oper.wp P o a w K' Q else K' (a.put o.dst undef) w) :
    wpSched P l.toArray Q S ((i, false) :: r) a w := sched_c (by simpa using ho) h
/-- A schedule of few steps, checked at once. -/
theorem sched_few {P : Program} {Q : Exit → Act → World → Prop} {S : World → Prop} {id : Nat} {l : List Oper} {a : Act} {w : World} (sch : List (Nat × Bool × List Bool)) (short : List (Nat × Bool)) (hm : P.follows .mixedOrders = true) (hs : Region.noSelect l.toArray = true)
    (hn : sch.length = l.length) (hA : sch.all (schedStep .any l.toArray) = true) (hB : schedLink sch (List.replicate l.length false) (List.replicate l.length true) = true) (he : Region.ready .any l.toArray (List.replicate l.length true).toArray = []) (hsh : sch.map (fun x => (x.1, x.2.1)) = short) (hS : S w.drew)
    (h : S w.drew → wpSched P l.toArray (NoPanic Q) S short a w.drew) : (Code.region id l.toArray true).wp P Q a w :=
  wp_region_noPanic (wp_region_sched (S := S) sch (List.replicate l.length false) (List.replicate l.length true) short hm hs (fun _ _ _ _ _ h => h) (by rw [List.size_toArray]) (by rw [List.size_toArray]; exact hn) (fun x hx => List.all_eq_true.1 hA x hx) hB he hsh hS h)
end
end Go.Proofs.YtdnbnpknmdcljaaGreatDoor
