/- The law ClockSince: the row and its card. For every input the law returns true, and the input reads as it did. -/
import Derived.Test.YtpchkfnfipdilaaDoorFrameR
import Derived.Test.YtpchkfnfipdilaaDoorClkK
namespace Go.Proofs.YtpchkfnfipdilaaDoor.clockSince
open Go.ChangeShapes Go.WideShapes Go.ChangeAt Go.RowKit Go.Joins
open Go.ChangeMaps (open_string shut_string)
/-- WHAT THE ROW's LIST GIVES. -/
theorem errT {W : World} (h : laidMetH Tryd.prog Rows.clockSinceRow.laid W) : ErrT W := errT_handles (laidMetH_iff.1 h).2 (List.mem_filter.2 ⟨by simp [Rows.clockSinceRow], by kernel_rfl⟩)
theorem romanT {W : World} (h : laidMetH Tryd.prog Rows.clockSinceRow.laid W) : RomanT W := romanT_laid (by kernel_rfl) h
set_option maxRecDepth 100000 in
theorem contract (H : Type) (enc : TypeId × Value → H) (W : World) (base : Nat) (args : Array Value) (ds gs : List (DataW H)) (before : List MemPlace)
    (hval : ∀ (j : Nat) t v, Tryd.f5.params[j]? = some t → args[j]? = some v → Value.okWide Tryd.prog W .any base t v)
    (hW : DataW.Whole enc Tryd.prog Tryd.f5.params.toList Rows.clockSinceSpec.vars false W args.toList ds gs before) (hL : laidMetH Tryd.prog Rows.clockSinceRow.laid W) :
    Calls Tryd.prog 5 args W fun e W' => ∃ v, e = .returned v ∧ Rows.clockSinceSpec.post enc Tryd.prog Tryd.f5 false true false false W args v W' := by
  have hW' := hW
  obtain ⟨p, q, hA0, hV, rfl, hfz, hnd⟩ := hW
  have hA : DataW.TrodAll enc Tryd.prog W 0 (fun _ => true) true Tryd.f5.params.toList args.toList ds p := hA0
  rw [Tryd.params5] at hA hval
  obtain ⟨v0, vs0, d0, ds0, p0, q0, hargs, rfl, rfl, h0, r0⟩ := trodAll_cons hA
  obtain ⟨v1, vs1, d1, ds1, p1, q1, rfl, rfl, rfl, h1, r1⟩ := trodAll_cons r0
  obtain ⟨rfl, rfl, rfl⟩ := trodAll_nil r1
  obtain rfl : args = #[v0, v1] := Array.toList_inj.1 hargs
  obtain ⟨rfl, rfl⟩ := trodVars_none hV
  obtain ⟨x0, rfl, rfl, rfl, k0⟩ := open_int Tryd.underlying22 (hval 0 22 v0 rfl rfl) h0
  obtain ⟨x1, rfl, rfl, rfl, k1⟩ := open_int Tryd.underlying22 (hval 1 22 v1 rfl rfl) h1
  exact law_done rfl rfl rfl (by kernel_rfl) hW' (clockSince_walk x0 x1 W (errT hL) (romanT hL) (inI_wf k0) (inI_wf k1))
theorem laid_met (os : Os) : laidMetH Tryd.prog Rows.clockSinceRow.laid ((laidWorld os).forCall (fun _ _ => 0) ⟨#[], #[.int .i64 0, .int .i64 0], []⟩).memory :=
  laidMetH_of_parts (laidMet_of_run' 8 (by kernel_rfl) (by kernel_rfl)) (by kernel_rfl)
theorem reads (os : Os) {H : Type} (enc : TypeId × Value → H) : ∃ places, DataW.whole enc Tryd.prog ((laidWorld os).forCall (fun _ _ => 0) ⟨#[], #[.int .i64 0, .int .i64 0], []⟩).memory Tryd.f5.params.toList Rows.clockSinceSpec.vars false (#[.int .i64 0, .int .i64 0] : Array Value).toList 8 = some ([.lit (.int .i64 0), .lit (.int .i64 0)], [], places) :=
  ⟨[], by kernel_rfl⟩
set_option maxRecDepth 100000 in
theorem lifted (os : Os) (started : os.Started) (H : Type) (enc : TypeId × Value → H) (F : Stop.Interp) :
    ReturnsInHanded {} Tryd.checked os 5 .any ((OpenSpec.ofChange Rows.clockSinceSpec).preRow enc Tryd.prog Tryd.f5 Rows.clockSinceRow.domain false Rows.clockSinceRow.laid) (((OpenSpec.ofChange Rows.clockSinceSpec).at F).post enc Tryd.prog Tryd.f5 false true false false) := by
  obtain ⟨places, hx⟩ := reads os enc
  refine returnsInHanded_of_row (C := Tryd.checked) (s := OpenSpec.ofChange Rows.clockSinceSpec) Tryd.own started (by kernel_rfl) Tryd.func5
    (witness_row_at (enc := enc) (C := Tryd.checked) false (laidWorld os) #[.int .i64 0, .int .i64 0] rfl (by kernel_rfl) (by kernel_rfl) (by kernel_rfl)
      (OpenSpec.preRow_of_cond 8 hx (by kernel_rfl) (fun k hk => by cases hk) (by kernel_rfl) (laid_met os))) ?_
  intro W base args ds gs before hval hW _ _ _ hL _ _
  exact contract H enc W base args ds gs before hval hW hL
theorem said : Rows.ClockSinceSaid :=
  OpenClaim.holds_of_cond 5 Tryd.f5 rfl rfl rfl rfl rfl rfl rfl ⟨rfl, rfl, rfl, rfl, rfl⟩ rfl rfl rfl rfl rfl (by kernel_rfl) Tryd.func5 (by kernel_rfl)
    (of_decide_eq_true (by kernel_rfl)) (by unfold Func.isWrapper; first | (rw [if_pos (by decide +kernel)]; kernel_rfl) | (rw [if_neg (by decide +kernel)]; exact ⟨rfl, rfl⟩))
    (fun os started H enc _ F => by rw [OpenClaim.pre_eq_preRow]; exact lifted os started H enc F)
theorem plain (f : FuncId) (fn : Func) (hf : Tryd.pinned.checked.prog.funcNamed "almanac/almanaclaw.ClockSince" = some f) (hfn : Tryd.pinned.checked.prog.funcs[f]? = some fn) :
    true = Tryd.pinned.checked.prog.looks [] ∧ ∀ (j : Nat) t, fn.params[j]? = some t → Tryd.pinned.checked.prog.wantsStandIn t = false := by
  obtain rfl : f = 5 := Option.some.inj ((show Tryd.prog.funcNamed "almanac/almanaclaw.ClockSince" = some 5 by kernel_rfl).symm.trans hf) |>.symm
  obtain rfl : fn = Tryd.f5 := (Option.some.inj (Tryd.func5.symm.trans hfn)).symm
  refine ⟨by kernel_rfl, fun j t ht => ?_⟩
  have h := (show Tryd.f5.params.all (fun t => !Tryd.prog.wantsStandIn t) = true by kernel_rfl)
  have := Array.all_eq_true_iff_forall_mem.1 h t (Array.mem_of_getElem? ht)
  show Tryd.prog.wantsStandIn t = false
  simpa using this
end Go.Proofs.YtpchkfnfipdilaaDoor.clockSince
namespace Go.Proofs.YtpchkfnfipdilaaDoor
open Go.ChangeShapes Go.WideShapes Go.ChangeAt Go.RowKit
/-- THE CARD of ClockSince. -/
theorem clockSince_card : Rows.ClockSinceCardSaid :=
  Claim7.holds_tied_plain_at .later [] _ _ _ _ clockSince.said (fun _ h => by cases h) (by kernel_rfl) (fun _ h => by cases h) clockSince_row_tie rfl ⟨rfl, rfl⟩ (by kernel_rfl) rfl clockSince.plain (by kernel_rfl)
end Go.Proofs.YtpchkfnfipdilaaDoor
