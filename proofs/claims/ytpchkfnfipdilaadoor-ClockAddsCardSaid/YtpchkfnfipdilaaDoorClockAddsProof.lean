/- The law ClockAdds: the row and its card. For every input the law returns true, and the input reads as it did. -/
import Derived.Test.YtpchkfnfipdilaaDoorFrameR
import Derived.Test.YtpchkfnfipdilaaDoorClkI
import Derived.Test.YtpchkfnfipdilaaDoorOpen5
namespace Go.Proofs.YtpchkfnfipdilaaDoor.clockAdds
open Go.ChangeShapes Go.WideShapes Go.ChangeAt Go.RowKit Go.Joins
open Go.ChangeMaps (open_string shut_string)
theorem cells1 : Tryd.prog.cellsOf 38 = 5 := by kernel_rfl
/-- WHAT THE ROW's LIST GIVES. -/
theorem errT {W : World} (h : laidMetH Tryd.prog Rows.clockAddsRow.laid W) : ErrT W := errT_handles (laidMetH_iff.1 h).2 (List.mem_filter.2 ⟨by simp [Rows.clockAddsRow], by kernel_rfl⟩)
theorem romanT {W : World} (h : laidMetH Tryd.prog Rows.clockAddsRow.laid W) : RomanT W := romanT_laid (by kernel_rfl) h
set_option maxRecDepth 100000 in
theorem contract (H : Type) (enc : TypeId × Value → H) (W : World) (base : Nat) (args : Array Value) (ds gs : List (DataW H)) (before : List MemPlace)
    (hval : ∀ (j : Nat) t v, Tryd.f4.params[j]? = some t → args[j]? = some v → Value.okWide Tryd.prog W .any base t v)
    (hW : DataW.Whole enc Tryd.prog Tryd.f4.params.toList Rows.clockAddsSpec.vars false W args.toList ds gs before) (hL : laidMetH Tryd.prog Rows.clockAddsRow.laid W) :
    Calls Tryd.prog 4 args W fun e W' => ∃ v, e = .returned v ∧ Rows.clockAddsSpec.post enc Tryd.prog Tryd.f4 false true false false W args v W' := by
  have hW' := hW
  obtain ⟨p, q, hA0, hV, rfl, hfz, hnd⟩ := hW
  have hA : DataW.TrodAll enc Tryd.prog W 0 (fun _ => true) true Tryd.f4.params.toList args.toList ds p := hA0
  rw [Tryd.params4] at hA hval
  obtain ⟨v0, vs0, d0, ds0, p0, q0, hargs, rfl, rfl, h0, r0⟩ := trodAll_cons hA
  obtain ⟨v1, vs1, d1, ds1, p1, q1, rfl, rfl, rfl, h1, r1⟩ := trodAll_cons r0
  obtain ⟨rfl, rfl, rfl⟩ := trodAll_nil r1
  obtain rfl : args = #[v0, v1] := Array.toList_inj.1 hargs
  obtain ⟨rfl, rfl⟩ := trodVars_none hV
  obtain ⟨x0, rfl, rfl, rfl, k0⟩ := open_int Tryd.underlying22 (hval 0 22 v0 rfl rfl) h0
  obtain ⟨c1_0, c1_1, c1_2, c1_3, c1_4, y1_0, y1_1, y1_2, y1_3, y1_4, m1, rfl, rfl, rfl, g1_0, g1_1, g1_2, g1_3, g1_4⟩ := open_agg5 Tryd.underlying38 (by kernel_rfl) cells1 (hval 1 38 v1 rfl rfl) h1
  obtain ⟨x1_0, e1_0, rfl, k1_0⟩ := DataW.trod_int Tryd.underlying3 g1_0
  obtain ⟨x1_1, e1_1, rfl, k1_1⟩ := DataW.trod_int Tryd.underlying3 g1_1
  obtain ⟨x1_2, e1_2, rfl, k1_2⟩ := DataW.trod_int Tryd.underlying3 g1_2
  obtain ⟨x1_3, e1_3, rfl, k1_3⟩ := DataW.trod_int Tryd.underlying3 g1_3
  obtain ⟨x1_4, e1_4, rfl, k1_4⟩ := DataW.trod_int Tryd.underlying3 g1_4
  simp at e1_0 e1_1 e1_2 e1_3 e1_4
  subst e1_0 e1_1 e1_2 e1_3 e1_4
  exact law_done rfl rfl rfl (by kernel_rfl) hW' (clockAdds_walk x0 x1_0 x1_1 x1_2 x1_3 x1_4 W (errT hL) (romanT hL) (inI_wf k0))
theorem laid_met (os : Os) : laidMetH Tryd.prog Rows.clockAddsRow.laid ((laidWorld os).forCall (fun _ _ => 0) ⟨#[], #[.int .i64 0, .agg #[.int .i64 0, .int .i64 0, .int .i64 0, .int .i64 0, .int .i64 0]], []⟩).memory :=
  laidMetH_of_parts (laidMet_of_run' 8 (by kernel_rfl) (by kernel_rfl)) (by kernel_rfl)
theorem reads (os : Os) {H : Type} (enc : TypeId × Value → H) : ∃ places, DataW.whole enc Tryd.prog ((laidWorld os).forCall (fun _ _ => 0) ⟨#[], #[.int .i64 0, .agg #[.int .i64 0, .int .i64 0, .int .i64 0, .int .i64 0, .int .i64 0]], []⟩).memory Tryd.f4.params.toList Rows.clockAddsSpec.vars false (#[.int .i64 0, .agg #[.int .i64 0, .int .i64 0, .int .i64 0, .int .i64 0, .int .i64 0]] : Array Value).toList 8 = some ([.lit (.int .i64 0), .agg [.lit (.int .i64 0), .lit (.int .i64 0), .lit (.int .i64 0), .lit (.int .i64 0), .lit (.int .i64 0)]], [], places) :=
  ⟨[], by kernel_rfl⟩
set_option maxRecDepth 100000 in
theorem lifted (os : Os) (started : os.Started) (H : Type) (enc : TypeId × Value → H) (F : Stop.Interp) :
    ReturnsInHanded {} Tryd.checked os 4 .any ((OpenSpec.ofChange Rows.clockAddsSpec).preRow enc Tryd.prog Tryd.f4 Rows.clockAddsRow.domain false Rows.clockAddsRow.laid) (((OpenSpec.ofChange Rows.clockAddsSpec).at F).post enc Tryd.prog Tryd.f4 false true false false) := by
  obtain ⟨places, hx⟩ := reads os enc
  refine returnsInHanded_of_row (C := Tryd.checked) (s := OpenSpec.ofChange Rows.clockAddsSpec) Tryd.own started (by kernel_rfl) Tryd.func4
    (witness_row_at (enc := enc) (C := Tryd.checked) false (laidWorld os) #[.int .i64 0, .agg #[.int .i64 0, .int .i64 0, .int .i64 0, .int .i64 0, .int .i64 0]] rfl (by kernel_rfl) (by kernel_rfl) (by kernel_rfl)
      (OpenSpec.preRow_of_cond 8 hx (by kernel_rfl) (fun k hk => by cases hk) (by kernel_rfl) (laid_met os))) ?_
  intro W base args ds gs before hval hW _ _ _ hL _ _
  exact contract H enc W base args ds gs before hval hW hL
theorem said : Rows.ClockAddsSaid :=
  OpenClaim.holds_of_cond 4 Tryd.f4 rfl rfl rfl rfl rfl rfl rfl ⟨rfl, rfl, rfl, rfl, rfl⟩ rfl rfl rfl rfl rfl (by kernel_rfl) Tryd.func4 (by kernel_rfl)
    (of_decide_eq_true (by kernel_rfl)) (by unfold Func.isWrapper; first | (rw [if_pos (by decide +kernel)]; kernel_rfl) | (rw [if_neg (by decide +kernel)]; exact ⟨rfl, rfl⟩))
    (fun os started H enc _ F => by rw [OpenClaim.pre_eq_preRow]; exact lifted os started H enc F)
theorem plain (f : FuncId) (fn : Func) (hf : Tryd.pinned.checked.prog.funcNamed "almanac/almanaclaw.ClockAdds" = some f) (hfn : Tryd.pinned.checked.prog.funcs[f]? = some fn) :
    true = Tryd.pinned.checked.prog.looks [] ∧ ∀ (j : Nat) t, fn.params[j]? = some t → Tryd.pinned.checked.prog.wantsStandIn t = false := by
  obtain rfl : f = 4 := Option.some.inj ((show Tryd.prog.funcNamed "almanac/almanaclaw.ClockAdds" = some 4 by kernel_rfl).symm.trans hf) |>.symm
  obtain rfl : fn = Tryd.f4 := (Option.some.inj (Tryd.func4.symm.trans hfn)).symm
  refine ⟨by kernel_rfl, fun j t ht => ?_⟩
  have h := (show Tryd.f4.params.all (fun t => !Tryd.prog.wantsStandIn t) = true by kernel_rfl)
  have := Array.all_eq_true_iff_forall_mem.1 h t (Array.mem_of_getElem? ht)
  show Tryd.prog.wantsStandIn t = false
  simpa using this
end Go.Proofs.YtpchkfnfipdilaaDoor.clockAdds
namespace Go.Proofs.YtpchkfnfipdilaaDoor
open Go.ChangeShapes Go.WideShapes Go.ChangeAt Go.RowKit
/-- THE CARD of ClockAdds. -/
theorem clockAdds_card : Rows.ClockAddsCardSaid :=
  Claim7.holds_tied_plain_at .later [] _ _ _ _ clockAdds.said (fun _ h => by cases h) (by kernel_rfl) (fun _ h => by cases h) clockAdds_row_tie rfl ⟨rfl, rfl⟩ (by kernel_rfl) rfl clockAdds.plain (by kernel_rfl)
end Go.Proofs.YtpchkfnfipdilaaDoor
