/- The law ClockPeriods: the row and its card. For every input the law returns true, and the input reads as it did. -/
import Derived.Test.YtkfpnlenmdlmjaaDoorTabsP
import Derived.Test.YtkfpnlenmdlmjaaDoorPerH
import Derived.Test.YtkfpnlenmdlmjaaDoorOpen5
namespace Go.Proofs.YtkfpnlenmdlmjaaDoor.clockPeriods
open Go.ChangeShapes Go.WideShapes Go.ChangeAt Go.RowKit Go.Joins
open Go.ChangeMaps (open_string shut_string)
theorem cells0 : Tryd.prog.cellsOf 23 = 5 := by kernel_rfl
/-- WHAT THE ROW's LIST GIVES. -/
theorem errT {W : World} (h : laidMetH Tryd.prog Rows.clockPeriodsRow.laid W) : ErrT W := errT_handles (laidMetH_iff.1 h).2 (List.mem_filter.2 ⟨by simp [Rows.clockPeriodsRow], by kernel_rfl⟩)
theorem romanT {W : World} (h : laidMetH Tryd.prog Rows.clockPeriodsRow.laid W) : Pow W := pow_laid (by kernel_rfl) h
set_option maxRecDepth 100000 in
theorem contract (H : Type) (enc : TypeId × Value → H) (W : World) (base : Nat) (args : Array Value) (ds gs : List (DataW H)) (before : List MemPlace)
    (hval : ∀ (j : Nat) t v, Tryd.f3.params[j]? = some t → args[j]? = some v → Value.okWide Tryd.prog W .any base t v)
    (hW : DataW.Whole enc Tryd.prog Tryd.f3.params.toList Rows.clockPeriodsSpec.vars false W args.toList ds gs before) (hL : laidMetH Tryd.prog Rows.clockPeriodsRow.laid W) :
    Calls Tryd.prog 3 args W fun e W' => ∃ v, e = .returned v ∧ Rows.clockPeriodsSpec.post enc Tryd.prog Tryd.f3 false true false false W args v W' := by
  have hW' := hW
  obtain ⟨p, q, hA0, hV, rfl, hfz, hnd⟩ := hW
  have hA : DataW.TrodAll enc Tryd.prog W 0 (fun _ => true) true Tryd.f3.params.toList args.toList ds p := hA0
  rw [Tryd.params3] at hA hval
  obtain ⟨v0, vs0, d0, ds0, p0, q0, hargs, rfl, rfl, h0, r0⟩ := trodAll_cons hA
  obtain ⟨v1, vs1, d1, ds1, p1, q1, rfl, rfl, rfl, h1, r1⟩ := trodAll_cons r0
  obtain ⟨rfl, rfl, rfl⟩ := trodAll_nil r1
  obtain rfl : args = #[v0, v1] := Array.toList_inj.1 hargs
  obtain ⟨rfl, rfl⟩ := trodVars_none hV
  obtain ⟨c0_0, c0_1, c0_2, c0_3, c0_4, y0_0, y0_1, y0_2, y0_3, y0_4, m0, rfl, rfl, rfl, g0_0, g0_1, g0_2, g0_3, g0_4⟩ := open_agg5 Tryd.underlying23 (by kernel_rfl) cells0 (hval 0 23 v0 rfl rfl) h0
  obtain ⟨x0_0, e0_0, rfl, k0_0⟩ := DataW.trod_int Tryd.underlying3 g0_0
  obtain ⟨x0_1, e0_1, rfl, k0_1⟩ := DataW.trod_int Tryd.underlying3 g0_1
  obtain ⟨x0_2, e0_2, rfl, k0_2⟩ := DataW.trod_int Tryd.underlying3 g0_2
  obtain ⟨x0_3, e0_3, rfl, k0_3⟩ := DataW.trod_int Tryd.underlying3 g0_3
  obtain ⟨x0_4, e0_4, rfl, k0_4⟩ := DataW.trod_int Tryd.underlying3 g0_4
  simp at e0_0 e0_1 e0_2 e0_3 e0_4
  subst e0_0 e0_1 e0_2 e0_3 e0_4
  obtain ⟨x1, rfl, rfl, rfl, k1⟩ := open_string Tryd.underlying9 (hval 1 9 v1 rfl rfl) h1
  exact law_done rfl rfl rfl (by kernel_rfl) hW' (clockPeriods_walk x0_0 x0_1 x0_2 x0_3 x0_4 x1 W (errT hL) (romanT hL) (by unfold maxLen at k1; omega))
theorem laid_met (os : Os) : laidMetH Tryd.prog Rows.clockPeriodsRow.laid ((laidWorld os).forCall (fun _ _ => 0) ⟨#[], #[.agg #[.int .i64 0, .int .i64 0, .int .i64 0, .int .i64 0, .int .i64 0], .string ByteArray.empty], []⟩).memory :=
  laidMetH_of_parts (laidMet_of_run' 8 (by kernel_rfl) (by kernel_rfl)) (by kernel_rfl)
theorem reads (os : Os) {H : Type} (enc : TypeId × Value → H) : ∃ places, DataW.whole enc Tryd.prog ((laidWorld os).forCall (fun _ _ => 0) ⟨#[], #[.agg #[.int .i64 0, .int .i64 0, .int .i64 0, .int .i64 0, .int .i64 0], .string ByteArray.empty], []⟩).memory Tryd.f3.params.toList Rows.clockPeriodsSpec.vars false (#[.agg #[.int .i64 0, .int .i64 0, .int .i64 0, .int .i64 0, .int .i64 0], .string ByteArray.empty] : Array Value).toList 8 = some ([.agg [.lit (.int .i64 0), .lit (.int .i64 0), .lit (.int .i64 0), .lit (.int .i64 0), .lit (.int .i64 0)], .lit (.string [])], [], places) :=
  ⟨[], by kernel_rfl⟩
set_option maxRecDepth 100000 in
theorem lifted (os : Os) (started : os.Started) (H : Type) (enc : TypeId × Value → H) (F : Stop.Interp) :
    ReturnsInHanded {} Tryd.checked os 3 .any ((OpenSpec.ofChange Rows.clockPeriodsSpec).preRow enc Tryd.prog Tryd.f3 Rows.clockPeriodsRow.domain false Rows.clockPeriodsRow.laid) (((OpenSpec.ofChange Rows.clockPeriodsSpec).at F).post enc Tryd.prog Tryd.f3 false true false false) := by
  obtain ⟨places, hx⟩ := reads os enc
  refine returnsInHanded_of_row (C := Tryd.checked) (s := OpenSpec.ofChange Rows.clockPeriodsSpec) Tryd.own started (by kernel_rfl) Tryd.func3
    (witness_row_at (enc := enc) (C := Tryd.checked) false (laidWorld os) #[.agg #[.int .i64 0, .int .i64 0, .int .i64 0, .int .i64 0, .int .i64 0], .string ByteArray.empty] rfl (by kernel_rfl) (by kernel_rfl) (by kernel_rfl)
      (OpenSpec.preRow_of_cond 8 hx (by kernel_rfl) (fun k hk => by cases hk) (by kernel_rfl) (laid_met os))) ?_
  intro W base args ds gs before hval hW _ _ _ hL _ _
  exact contract H enc W base args ds gs before hval hW hL
theorem said : Rows.ClockPeriodsSaid :=
  OpenClaim.holds_of_cond 3 Tryd.f3 rfl rfl rfl rfl rfl rfl rfl ⟨rfl, rfl, rfl, rfl, rfl⟩ rfl rfl rfl rfl rfl (by kernel_rfl) Tryd.func3 (by kernel_rfl)
    (of_decide_eq_true (by kernel_rfl)) (by unfold Func.isWrapper; first | (rw [if_pos (by decide +kernel)]; kernel_rfl) | (rw [if_neg (by decide +kernel)]; exact ⟨rfl, rfl⟩))
    (fun os started H enc _ F => by rw [OpenClaim.pre_eq_preRow]; exact lifted os started H enc F)
theorem plain (f : FuncId) (fn : Func) (hf : Tryd.pinned.checked.prog.funcNamed "almanac/almanaclaw.ClockPeriods" = some f) (hfn : Tryd.pinned.checked.prog.funcs[f]? = some fn) :
    true = Tryd.pinned.checked.prog.looks [] ∧ ∀ (j : Nat) t, fn.params[j]? = some t → Tryd.pinned.checked.prog.wantsStandIn t = false := by
  obtain rfl : f = 3 := Option.some.inj ((show Tryd.prog.funcNamed "almanac/almanaclaw.ClockPeriods" = some 3 by kernel_rfl).symm.trans hf) |>.symm
  obtain rfl : fn = Tryd.f3 := (Option.some.inj (Tryd.func3.symm.trans hfn)).symm
  refine ⟨by kernel_rfl, fun j t ht => ?_⟩
  have h := (show Tryd.f3.params.all (fun t => !Tryd.prog.wantsStandIn t) = true by kernel_rfl)
  have := Array.all_eq_true_iff_forall_mem.1 h t (Array.mem_of_getElem? ht)
  show Tryd.prog.wantsStandIn t = false
  simpa using this
end Go.Proofs.YtkfpnlenmdlmjaaDoor.clockPeriods
namespace Go.Proofs.YtkfpnlenmdlmjaaDoor
open Go.ChangeShapes Go.WideShapes Go.ChangeAt Go.RowKit
/-- THE CARD of ClockPeriods. -/
theorem clockPeriods_card : Rows.ClockPeriodsCardSaid :=
  Claim7.holds_tied_plain_at .later [] _ _ _ _ clockPeriods.said (fun _ h => by cases h) (by kernel_rfl) (fun _ h => by cases h) clockPeriods_row_tie rfl ⟨rfl, rfl⟩ (by kernel_rfl) rfl clockPeriods.plain (by kernel_rfl)
end Go.Proofs.YtkfpnlenmdlmjaaDoor
