/- The frame of every law of this seat: from a walk's contract to the row, the card; what the list of variables gives. -/
import Derived.Test.YtikhjlankomghaaRows
import Derived.Test.YtikhjlankomghaaTell
import Derived.ProofKit
import Derived.OpenShut
import Derived.Lib.SmallJoins
import Derived.LaidHandle
import Derived.Deep.DeepHandedRow
import Derived.Lib.LaidTab
namespace Go.Proofs.Ytikhjlankomghaa
open Go.ChangeShapes Go.WideShapes Go.ChangeAt Go.RowKit

theorem Try.own : ownKnob Try.prog.godebug = none := by kernel_rfl
theorem Try.laidOut : laidOutB Try.prog = true := by kernel_rfl

theorem trodAll_below {H : Type} {enc : TypeId × Value → H} {W W' : World} (hb : Below W.heap.size W W') : ∀ (ts : List TypeId) (vs : List Value) (ds : List (DataW H)) (p : List MemPlace),
    (ts.all fun t => Try.prog.readableRec t && decide (t < Try.prog.types.size)) = true → (∀ x ∈ p, x.block < W.heap.size) → DataW.TrodAll enc Try.prog W 0 (fun _ => true) true ts vs ds p →
    DataW.TrodAll enc Try.prog W' 0 (fun b => decide (b < W.heap.size)) true ts vs ds p := by
  intro ts
  induction ts with
  | nil =>
    intro vs ds p _ _ h
    obtain ⟨rfl, rfl, rfl⟩ := trodAll_nil h
    exact trodAll_mk0
  | cons t ts ih =>
    intro vs ds p hts hlt h
    obtain ⟨v, vs', d, ds', p1, q1, rfl, rfl, rfl, h0, r0⟩ := trodAll_cons h
    simp only [List.all_cons, Bool.and_eq_true] at hts
    exact trodAll_cons_mk (Below.trod Try.laidOut hts.1.1 (of_decide_eq_true hts.1.2) h0 hb (fun x hx => hlt x (List.mem_append_left _ hx)))
      (ih vs' ds' q1 hts.2 (fun x hx => hlt x (List.mem_append_right _ hx)) r0)

/-- FROM THE WALK TO THE LAW's POST: it answers true, and nothing that was there has turned. -/
theorem law_done {H : Type} {enc : TypeId × Value → H} {F : FuncId} {f : Func} {spec : ChangeSpec} {W : World} {args : Array Value} {ds gs : List (DataW H)} {before : List MemPlace} (hres : f.resultTypes = #[4])
    (hspec : spec.fn H (ds ++ gs) = { results := [.lit (.bool true)], args := ds }) (hvars : spec.vars = [])
    (hts : (f.params.toList.all fun t => Try.prog.readableRec t && decide (t < Try.prog.types.size)) = true)
    (hW : DataW.Whole enc Try.prog f.params.toList spec.vars false W args.toList ds gs before)
    (h : Calls Try.prog F args W fun e w' => e = .returned (.bool true) ∧ Below W.heap.size W w') :
    Calls Try.prog F args W fun e W' => ∃ v, e = .returned v ∧ spec.post enc Try.prog f false true false false W args v W' := by
  refine h.mono fun e W' ⟨he, hb⟩ => ?_
  have hW' := hW
  obtain ⟨p, q, hA, hV, hp, _, _⟩ := hW
  have hlt : ∀ x ∈ p, x.block < W.heap.size := fun x hx => hW'.lt x (by rw [hp]; exact List.mem_append_left _ hx)
  rw [hvars] at hV
  obtain ⟨_, _⟩ := trodVars_none hV
  refine ⟨_, he, ds, gs, before, [], p, [], hW', ?_, ?_, ?_, hb.frame _, fun h => by cases h⟩
  · rw [hspec, hres]
    exact trodAll_mk1 (shut_bool Try.underlying4 true)
  · rw [hspec]
    exact trodAll_below hb _ _ _ _ hts hlt hA
  · rw [hspec, hvars]
    rfl

theorem Try.size : Try.prog.types.size = 93 := by kernel_rfl
/-- A world for the witness: the settled one, the variables' blocks laid. -/
noncomputable def laidWorld (os : Os) : World := World.holding Try.prog os ⟨#[], #[], []⟩
end Go.Proofs.Ytikhjlankomghaa
