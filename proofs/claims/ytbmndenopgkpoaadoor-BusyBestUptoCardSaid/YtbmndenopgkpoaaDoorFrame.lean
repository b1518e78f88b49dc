/- The frame of every law of this seat: from a walk's contract to the row, the card; what the list of variables gives. -/
import Derived.Test.YtbmndenopgkpoaaDoorCards
import Derived.Test.YtbmndenopgkpoaaDoorTie
import Derived.Test.YtbmndenopgkpoaaDoorTell
import Derived.ProofKit
import Derived.OpenShut
import Derived.Lib.SmallJoins
import Derived.LaidHandle
import Derived.Deep.DeepHandedRow
import Derived.Lib.LaidTab
namespace Go.Proofs.YtbmndenopgkpoaaDoor
open Go.ChangeShapes Go.WideShapes Go.ChangeAt Go.RowKit

theorem Tryd.own : ownKnob Tryd.prog.godebug = none := by kernel_rfl
theorem Tryd.laidOut : laidOutB Tryd.prog = true := by kernel_rfl

theorem trodAll_below {H : Type} {enc : TypeId × Value → H} {W W' : World} (hb : Below W.heap.size W W') : ∀ (ts : List TypeId) (vs : List Value) (ds : List (DataW H)) (p : List MemPlace),
    (ts.all fun t => Tryd.prog.readableRec t && decide (t < Tryd.prog.types.size)) = true → (∀ x ∈ p, x.block < W.heap.size) → DataW.TrodAll enc Tryd.prog W 0 (fun _ => true) true ts vs ds p →
    DataW.TrodAll enc Tryd.prog W' 0 (fun b => decide (b < W.heap.size)) true ts vs ds p := by
  intro ts
  induction ts with
  | nil =>
    intro vs ds p _ _ h
    obtain ⟨rfl, rfl, rfl⟩ := trodAll_nil h
    exact trodAll_mk0
  | cons t ts ih =>
    intro vs ds p hts hlt h
    obtain ⟨v, vs', d, ds', p1, q1, rfl, rfl, rfl, h0, r0⟩ := trodAll_cons h
    simp only [List.all_cons, Bool.and_eq_true] at hts
    exact trodAll_cons_mk (Below.trod Tryd.laidOut hts.1.1 (of_decide_eq_true hts.1.2) h0 hb (fun x hx => hlt x (List.mem_append_left _ hx)))
      (ih vs' ds' q1 hts.2 (fun x hx => hlt x (List.mem_append_right _ hx)) r0)

/-- FROM THE WALK TO THE LAW's POST: it answers true, and nothing that was there has turned. -/
theorem law_done {H : Type} {enc : TypeId × Value → H} {F : FuncId} {f : Func} {spec : ChangeSpec} {W : World} {args : Array Value} {ds gs : List (DataW H)} {before : List MemPlace} (hres : f.resultTypes = #[4])
    (hspec : spec.fn H (ds ++ gs) = { results := [.lit (.bool true)], args := ds }) (hvars : spec.vars = [])
    (hts : (f.params.toList.all fun t => Tryd.prog.readableRec t && decide (t < Tryd.prog.types.size)) = true)
    (hW : DataW.Whole enc Tryd.prog f.params.toList spec.vars false W args.toList ds gs before)
    (h : Calls Tryd.prog F args W fun e w' => e = .returned (.bool true) ∧ Below W.heap.size W w') :
    Calls Tryd.prog F args W fun e W' => ∃ v, e = .returned v ∧ spec.post enc Tryd.prog f false true false false W args v W' := by
  refine h.mono fun e W' ⟨he, hb⟩ => ?_
  have hW' := hW
  obtain ⟨p, q, hA, hV, hp, _, _⟩ := hW
  have hlt : ∀ x ∈ p, x.block < W.heap.size := fun x hx => hW'.lt x (by rw [hp]; exact List.mem_append_left _ hx)
  rw [hvars] at hV
  obtain ⟨_, _⟩ := trodVars_none hV
  refine ⟨_, he, ds, gs, before, [], p, [], hW', ?_, ?_, ?_, hb.frame _, fun h => by cases h⟩
  · rw [hspec, hres]
    exact trodAll_mk1 (shut_bool Tryd.underlying4 true)
  · rw [hspec]
    exact trodAll_below hb _ _ _ _ hts hlt hA
  · rw [hspec, hvars]
    rfl

theorem Tryd.et : Tryd.prog.globalNamed "errors.errorType" = some 0 := by kernel_rfl
theorem Tryd.rt : (Tryd.prog.cutTypes.find? (·.1 == "internal/reflectlite.rtype")).map (·.2) = some 124 := by kernel_rfl
theorem Tryd.oneRow : ((List.range 187).filter fun t => Tryd.prog.rowNamed t [101, 114, 114, 111, 114]) = [67] := by kernel_rfl
theorem Tryd.size : Tryd.prog.types.size = 187 := by kernel_rfl
/-- WHAT THE LIST GIVES: the type's handle. -/
theorem errT_handles {l : List (String × DataW Unit)} {W : World} (h : handlesMet Tryd.prog l W) (hx : ("errors.errorType", Rows.laid_errors_errorType) ∈ l) : ErrT W := by
  obtain ⟨name, u, ty, e1, e2, e3, e4, e5⟩ := h _ hx
  have en : name = [101, 114, 114, 111, 114] := (Option.some.inj e1).symm
  subst en
  obtain rfl := Option.some.inj (Tryd.rt.symm.trans e2)
  have hm : ty ∈ (List.range 187).filter fun t => Tryd.prog.rowNamed t [101, 114, 114, 111, 114] := List.mem_filter.2 ⟨List.mem_range.2 (by rw [← Tryd.size]; exact e3), e4⟩
  rw [Tryd.oneRow] at hm
  obtain rfl := List.mem_singleton.1 hm
  have hh : typeHandle Tryd.prog 67 = .pointer (some ⟨1, 67, none⟩) := by kernel_rfl
  rw [hh] at e5
  have := World.var?_cell Tryd.et e5 0
  simpa [ErrT] using this

/-- A world for the witness: the settled one, the variables' blocks laid. -/
noncomputable def laidWorld (os : Os) : World :=
  let w0 := World.holding Tryd.prog os ⟨#[], #[], []⟩
  { w0 with heap := (w0.heap.modify 0 fun
      | .cells _ t frozen => .cells #[.iface 124 (.agg #[.pointer (some ⟨1, 67, none⟩)])] t frozen
      | o => o) }
end Go.Proofs.YtbmndenopgkpoaaDoor
