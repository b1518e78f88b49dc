/- The law ClockSpans: the row and its card. For every input the law returns true, and the input reads as it did. -/
import Derived.Test.YtkfpnlenmdlmjaaGreatDoorZG2
import Derived.Test.YtkfpnlenmdlmjaaGreatDoorZG13
namespace Go.Proofs.YtkfpnlenmdlmjaaGreatDoor.clockSpans
open Go.ChangeShapes Go.WideShapes Go.ChangeAt Go.RowKit Go.Joins
open Go.ChangeMaps (open_string shut_string)
/-- WHAT THE ROW's LIST GIVES. -/
theorem errT {W : World} (h : laidMetH Tryz.prog Rows.clockSpansRow.laid W) : ErrT W := errT_handles (laidMetH_iff.1 h).2 (List.mem_filter.2 ⟨by simp [Rows.clockSpansRow], by kernel_rfl⟩)
theorem romanT {W : World} (h : laidMetH Tryz.prog Rows.clockSpansRow.laid W) : RomanT W := romanT_laid (by kernel_rfl) h
set_option maxRecDepth 100000 in
theorem contract (H : Type) (enc : TypeId × Value → H) (W : World) (base : Nat) (args : Array Value) (ds gs : List (DataW H)) (before : List MemPlace)
    (hval : ∀ (j : Nat) t v, Tryz.f5.params[j]? = some t → args[j]? = some v → Value.okWide Tryz.prog W .any base t v)
    (hW : DataW.Whole enc Tryz.prog Tryz.f5.params.toList Rows.clockSpansSpec.vars false W args.toList ds gs before) (hL : laidMetH Tryz.prog Rows.clockSpansRow.laid W) :
    Calls Tryz.prog 5 args W fun e W' => ∃ v, e = .returned v ∧ Rows.clockSpansSpec.post enc Tryz.prog Tryz.f5 false true false false W args v W' := by
  have hW' := hW
  obtain ⟨p, q, hA0, hV, rfl, hfz, hnd⟩ := hW
  have hA : DataW.TrodAll enc Tryz.prog W 0 (fun _ => true) true Tryz.f5.params.toList args.toList ds p := hA0
  rw [Tryz.params5] at hA hval
  obtain ⟨v0, vs0, d0, ds0, p0, q0, hargs, rfl, rfl, h0, r0⟩ := trodAll_cons hA
  obtain ⟨rfl, rfl, rfl⟩ := trodAll_nil r0
  obtain rfl : args = #[v0] := Array.toList_inj.1 hargs
  obtain ⟨rfl, rfl⟩ := trodVars_none hV
  obtain ⟨x0, rfl, rfl, rfl, k0⟩ := open_string Tryz.underlying9 (hval 0 9 v0 rfl rfl) h0
  exact law_done rfl rfl rfl (by kernel_rfl) hW' (clockSpans_walk x0 W (errT hL) (romanT hL) (by unfold maxLen at k0; omega))
theorem laid_met (os : Os) : laidMetH Tryz.prog Rows.clockSpansRow.laid ((laidWorld os).forCall (fun _ _ => 0) ⟨#[], #[.string ByteArray.empty], []⟩).memory :=
  laidMetH_of_parts (laidMet_of_run' 8 (by kernel_rfl) (by kernel_rfl)) (by kernel_rfl)
theorem reads (os : Os) {H : Type} (enc : TypeId × Value → H) : ∃ places, DataW.whole enc Tryz.prog ((laidWorld os).forCall (fun _ _ => 0) ⟨#[], #[.string ByteArray.empty], []⟩).memory Tryz.f5.params.toList Rows.clockSpansSpec.vars false (#[.string ByteArray.empty] : Array Value).toList 8 = some ([.lit (.string [])], [], places) :=
  ⟨[], by kernel_rfl⟩
set_option maxRecDepth 100000 in
theorem lifted (os : Os) (started : os.Started) (H : Type) (enc : TypeId × Value → H) (F : Stop.Interp) :
    ReturnsInHanded {} Tryz.checked os 5 .any ((OpenSpec.ofChange Rows.clockSpansSpec).preRow enc Tryz.prog Tryz.f5 Rows.clockSpansRow.domain false Rows.clockSpansRow.laid) (((OpenSpec.ofChange Rows.clockSpansSpec).at F).post enc Tryz.prog Tryz.f5 false true false false) := by
  obtain ⟨places, hx⟩ := reads os enc
  refine returnsInHanded_of_row (C := Tryz.checked) (s := OpenSpec.ofChange Rows.clockSpansSpec) Tryz.own started (by kernel_rfl) Tryz.func5
    (witness_row_at (enc := enc) (C := Tryz.checked) false (laidWorld os) #[.string ByteArray.empty] rfl (by kernel_rfl) (by kernel_rfl) (by kernel_rfl)
      (OpenSpec.preRow_of_cond 8 hx (by kernel_rfl) (fun k hk => by cases hk) (by kernel_rfl) (laid_met os))) ?_
  intro W base args ds gs before hval hW _ _ _ hL _ _
  exact contract H enc W base args ds gs before hval hW hL
theorem said : Rows.ClockSpansSaid :=
  OpenClaim.holds_of_cond 5 Tryz.f5 rfl rfl rfl rfl rfl rfl rfl ⟨rfl, rfl, rfl, rfl, rfl⟩ rfl rfl rfl rfl rfl (by kernel_rfl) Tryz.func5 (by kernel_rfl)
    (of_decide_eq_true (by kernel_rfl)) (by unfold Func.isWrapper; first | (rw [if_pos (by decide +kernel)]; kernel_rfl) | (rw [if_neg (by decide +kernel)]; exact ⟨rfl, rfl⟩))
    (fun os started H enc _ F => by rw [OpenClaim.pre_eq_preRow]; exact lifted os started H enc F)
theorem plain (f : FuncId) (fn : Func) (hf : Tryz.pinned.checked.prog.funcNamed "almanac/almanaclaw.ClockSpans" = some f) (hfn : Tryz.pinned.checked.prog.funcs[f]? = some fn) :
    true = Tryz.pinned.checked.prog.looks [] ∧ ∀ (j : Nat) t, fn.params[j]? = some t → Tryz.pinned.checked.prog.wantsStandIn t = false := by
  obtain rfl : f = 5 := Option.some.inj ((show Tryz.prog.funcNamed "almanac/almanaclaw.ClockSpans" = some 5 by kernel_rfl).symm.trans hf) |>.symm
  obtain rfl : fn = Tryz.f5 := (Option.some.inj (Tryz.func5.symm.trans hfn)).symm
  refine ⟨by kernel_rfl, fun j t ht => ?_⟩
  have h := (show Tryz.f5.params.all (fun t => !Tryz.prog.wantsStandIn t) = true by kernel_rfl)
  have := Array.all_eq_true_iff_forall_mem.1 h t (Array.mem_of_getElem? ht)
  show Tryz.prog.wantsStandIn t = false
  simpa using this
end Go.Proofs.YtkfpnlenmdlmjaaGreatDoor.clockSpans
namespace Go.Proofs.YtkfpnlenmdlmjaaGreatDoor
open Go.ChangeShapes Go.WideShapes Go.ChangeAt Go.RowKit
/-- THE CARD of ClockSpans. -/
theorem clockSpans_card : Rows.ClockSpansCardSaid :=
  Claim7.holds_tied_plain_at .later [] _ _ _ _ clockSpans.said (fun _ h => by cases h) (by kernel_rfl) (fun _ h => by cases h) clockSpans_row_tie rfl ⟨rfl, rfl⟩ (by kernel_rfl) rfl clockSpans.plain (by kernel_rfl)
end Go.Proofs.YtkfpnlenmdlmjaaGreatDoor
