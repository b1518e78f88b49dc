/- The law SpanComposes: the row and its card. For every input the law returns true, and the input reads as it did. -/
import Derived.Test.YtpmppgmnnnlonaaDoorFrame
import Derived.Test.YtpmppgmnnnlonaaDoorSpanKw
namespace Go.Proofs.YtpmppgmnnnlonaaDoor.spanComposes
open Go.ChangeShapes Go.WideShapes Go.ChangeAt Go.RowKit Go.Joins
open Go.ChangeMaps (open_string shut_string)
theorem cells0 : Tryd.prog.cellsOf 23 = 2 := by kernel_rfl
theorem cells1 : Tryd.prog.cellsOf 23 = 2 := by kernel_rfl
theorem cells2 : Tryd.prog.cellsOf 23 = 2 := by kernel_rfl
/-- WHAT THE ROW's LIST GIVES. -/
theorem errT {W : World} (h : laidMetH Tryd.prog Rows.spanComposesRow.laid W) : ErrT W := errT_handles (laidMetH_iff.1 h).2 (List.mem_filter.2 ⟨by simp [Rows.spanComposesRow], by kernel_rfl⟩)
set_option maxRecDepth 100000 in
theorem contract (H : Type) (enc : TypeId × Value → H) (W : World) (base : Nat) (args : Array Value) (ds gs : List (DataW H)) (before : List MemPlace)
    (hval : ∀ (j : Nat) t v, Tryd.f3.params[j]? = some t → args[j]? = some v → Value.okWide Tryd.prog W .any base t v)
    (hW : DataW.Whole enc Tryd.prog Tryd.f3.params.toList Rows.spanComposesSpec.vars false W args.toList ds gs before) (hL : laidMetH Tryd.prog Rows.spanComposesRow.laid W) :
    Calls Tryd.prog 3 args W fun e W' => ∃ v, e = .returned v ∧ Rows.spanComposesSpec.post enc Tryd.prog Tryd.f3 false true false false W args v W' := by
  have hW' := hW
  obtain ⟨p, q, hA0, hV, rfl, hfz, hnd⟩ := hW
  have hA : DataW.TrodAll enc Tryd.prog W 0 (fun _ => true) true Tryd.f3.params.toList args.toList ds p := hA0
  rw [Tryd.params3] at hA hval
  obtain ⟨v0, vs0, d0, ds0, p0, q0, hargs, rfl, rfl, h0, r0⟩ := trodAll_cons hA
  obtain ⟨v1, vs1, d1, ds1, p1, q1, rfl, rfl, rfl, h1, r1⟩ := trodAll_cons r0
  obtain ⟨v2, vs2, d2, ds2, p2, q2, rfl, rfl, rfl, h2, r2⟩ := trodAll_cons r1
  obtain ⟨v3, vs3, d3, ds3, p3, q3, rfl, rfl, rfl, h3, r3⟩ := trodAll_cons r2
  obtain ⟨v4, vs4, d4, ds4, p4, q4, rfl, rfl, rfl, h4, r4⟩ := trodAll_cons r3
  obtain ⟨rfl, rfl, rfl⟩ := trodAll_nil r4
  obtain rfl : args = #[v0, v1, v2, v3, v4] := Array.toList_inj.1 hargs
  obtain ⟨rfl, rfl⟩ := trodVars_none hV
  obtain ⟨c0_0, c0_1, y0_0, y0_1, m0, rfl, rfl, rfl, g0_0, g0_1⟩ := open_agg2 Tryd.underlying23 (by kernel_rfl) cells0 (hval 0 23 v0 rfl rfl) h0
  obtain ⟨x0_0, e0_0, rfl, k0_0⟩ := DataW.trod_int Tryd.underlying3 g0_0
  obtain ⟨x0_1, e0_1, rfl, k0_1⟩ := DataW.trod_int Tryd.underlying3 g0_1
  simp at e0_0 e0_1
  subst e0_0 e0_1
  obtain ⟨c1_0, c1_1, y1_0, y1_1, m1, rfl, rfl, rfl, g1_0, g1_1⟩ := open_agg2 Tryd.underlying23 (by kernel_rfl) cells1 (hval 1 23 v1 rfl rfl) h1
  obtain ⟨x1_0, e1_0, rfl, k1_0⟩ := DataW.trod_int Tryd.underlying3 g1_0
  obtain ⟨x1_1, e1_1, rfl, k1_1⟩ := DataW.trod_int Tryd.underlying3 g1_1
  simp at e1_0 e1_1
  subst e1_0 e1_1
  obtain ⟨c2_0, c2_1, y2_0, y2_1, m2, rfl, rfl, rfl, g2_0, g2_1⟩ := open_agg2 Tryd.underlying23 (by kernel_rfl) cells2 (hval 2 23 v2 rfl rfl) h2
  obtain ⟨x2_0, e2_0, rfl, k2_0⟩ := DataW.trod_int Tryd.underlying3 g2_0
  obtain ⟨x2_1, e2_1, rfl, k2_1⟩ := DataW.trod_int Tryd.underlying3 g2_1
  simp at e2_0 e2_1
  subst e2_0 e2_1
  obtain ⟨x3, rfl, rfl, rfl, k3⟩ := open_int Tryd.underlying3 (hval 3 3 v3 rfl rfl) h3
  obtain ⟨x4, rfl, rfl, rfl, k4⟩ := open_int Tryd.underlying3 (hval 4 3 v4 rfl rfl) h4
  exact law_done rfl rfl rfl (by kernel_rfl) hW' (spanComposes_walk x0_0 x0_1 x1_0 x1_1 x2_0 x2_1 x3 x4 W (errT hL))
theorem laid_met (os : Os) : laidMetH Tryd.prog Rows.spanComposesRow.laid ((laidWorld os).forCall (fun _ _ => 0) ⟨#[], #[.agg #[.int .i64 0, .int .i64 0], .agg #[.int .i64 0, .int .i64 0], .agg #[.int .i64 0, .int .i64 0], .int .i64 0, .int .i64 0], []⟩).memory :=
  laidMetH_of_parts (laidMet_nil _ _) (by kernel_rfl)
theorem reads (os : Os) {H : Type} (enc : TypeId × Value → H) : ∃ places, DataW.whole enc Tryd.prog ((laidWorld os).forCall (fun _ _ => 0) ⟨#[], #[.agg #[.int .i64 0, .int .i64 0], .agg #[.int .i64 0, .int .i64 0], .agg #[.int .i64 0, .int .i64 0], .int .i64 0, .int .i64 0], []⟩).memory Tryd.f3.params.toList Rows.spanComposesSpec.vars false (#[.agg #[.int .i64 0, .int .i64 0], .agg #[.int .i64 0, .int .i64 0], .agg #[.int .i64 0, .int .i64 0], .int .i64 0, .int .i64 0] : Array Value).toList 8 = some ([.agg [.lit (.int .i64 0), .lit (.int .i64 0)], .agg [.lit (.int .i64 0), .lit (.int .i64 0)], .agg [.lit (.int .i64 0), .lit (.int .i64 0)], .lit (.int .i64 0), .lit (.int .i64 0)], [], places) :=
  ⟨[], by kernel_rfl⟩
set_option maxRecDepth 100000 in
theorem lifted (os : Os) (started : os.Started) (H : Type) (enc : TypeId × Value → H) (F : Stop.Interp) :
    ReturnsInHanded {} Tryd.checked os 3 .any ((OpenSpec.ofChange Rows.spanComposesSpec).preRow enc Tryd.prog Tryd.f3 Rows.spanComposesRow.domain false Rows.spanComposesRow.laid) (((OpenSpec.ofChange Rows.spanComposesSpec).at F).post enc Tryd.prog Tryd.f3 false true false false) := by
  obtain ⟨places, hx⟩ := reads os enc
  refine returnsInHanded_of_row (C := Tryd.checked) (s := OpenSpec.ofChange Rows.spanComposesSpec) Tryd.own started (by kernel_rfl) Tryd.func3
    (witness_row_at (enc := enc) (C := Tryd.checked) false (laidWorld os) #[.agg #[.int .i64 0, .int .i64 0], .agg #[.int .i64 0, .int .i64 0], .agg #[.int .i64 0, .int .i64 0], .int .i64 0, .int .i64 0] rfl (by kernel_rfl) (by kernel_rfl) (by kernel_rfl)
      (OpenSpec.preRow_of_cond 8 hx (by kernel_rfl) (fun k hk => by cases hk) (by kernel_rfl) (laid_met os))) ?_
  intro W base args ds gs before hval hW _ _ _ hL _ _
  exact contract H enc W base args ds gs before hval hW hL
theorem said : Rows.SpanComposesSaid :=
  OpenClaim.holds_of_cond 3 Tryd.f3 rfl rfl rfl rfl rfl rfl rfl ⟨rfl, rfl, rfl, rfl, rfl⟩ rfl rfl rfl rfl rfl (by kernel_rfl) Tryd.func3 (by kernel_rfl)
    (of_decide_eq_true (by kernel_rfl)) (by unfold Func.isWrapper; first | (rw [if_pos (by decide +kernel)]; kernel_rfl) | (rw [if_neg (by decide +kernel)]; exact ⟨rfl, rfl⟩))
    (fun os started H enc _ F => by rw [OpenClaim.pre_eq_preRow]; exact lifted os started H enc F)
theorem plain (f : FuncId) (fn : Func) (hf : Tryd.pinned.checked.prog.funcNamed "almanac/almanackeep.SpanComposes" = some f) (hfn : Tryd.pinned.checked.prog.funcs[f]? = some fn) :
    true = Tryd.pinned.checked.prog.looks [] ∧ ∀ (j : Nat) t, fn.params[j]? = some t → Tryd.pinned.checked.prog.wantsStandIn t = false := by
  obtain rfl : f = 3 := Option.some.inj ((show Tryd.prog.funcNamed "almanac/almanackeep.SpanComposes" = some 3 by kernel_rfl).symm.trans hf) |>.symm
  obtain rfl : fn = Tryd.f3 := (Option.some.inj (Tryd.func3.symm.trans hfn)).symm
  refine ⟨by kernel_rfl, fun j t ht => ?_⟩
  have h := (show Tryd.f3.params.all (fun t => !Tryd.prog.wantsStandIn t) = true by kernel_rfl)
  have := Array.all_eq_true_iff_forall_mem.1 h t (Array.mem_of_getElem? ht)
  show Tryd.prog.wantsStandIn t = false
  simpa using this
end Go.Proofs.YtpmppgmnnnlonaaDoor.spanComposes
namespace Go.Proofs.YtpmppgmnnnlonaaDoor
open Go.ChangeShapes Go.WideShapes Go.ChangeAt Go.RowKit
/-- THE CARD of SpanComposes. -/
theorem spanComposes_card : Rows.SpanComposesCardSaid :=
  Claim7.holds_tied_plain_at .later [] _ _ _ _ spanComposes.said (fun _ h => by cases h) (by kernel_rfl) (fun _ h => by cases h) spanComposes_row_tie rfl ⟨rfl, rfl⟩ (by kernel_rfl) rfl spanComposes.plain (by kernel_rfl)
end Go.Proofs.YtpmppgmnnnlonaaDoor
