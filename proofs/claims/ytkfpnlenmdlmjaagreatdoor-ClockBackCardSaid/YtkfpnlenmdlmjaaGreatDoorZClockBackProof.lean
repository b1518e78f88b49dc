/- The law ClockBack: the row and its card. For every input the law returns true, and the input reads as it did. -/
import Derived.Test.YtkfpnlenmdlmjaaGreatDoorZTabsR
import Derived.Test.YtkfpnlenmdlmjaaGreatDoorZBakC
import Derived.Test.YtkfpnlenmdlmjaaGreatDoorZOpen5
namespace Go.Proofs.YtkfpnlenmdlmjaaGreatDoor.clockBack
open Go.ChangeShapes Go.WideShapes Go.ChangeAt Go.RowKit Go.Joins
open Go.ChangeMaps (open_string shut_string)
theorem cells0 : Tryz.prog.cellsOf 24 = 3 := by kernel_rfl
theorem cells1 : Tryz.prog.cellsOf 43 = 5 := by kernel_rfl
/-- WHAT THE ROW's LIST GIVES. -/
theorem errT {W : World} (h : laidMetH Tryz.prog Rows.clockBackRow.laid W) : ErrT W := errT_handles (laidMetH_iff.1 h).2 (List.mem_filter.2 ⟨by simp [Rows.clockBackRow], by kernel_rfl⟩)
theorem tabs {W : World} (h : laidMetH Tryz.prog Rows.clockBackRow.laid W) : RomanT W ∧ Pow W := tabs_laid (by kernel_rfl) h
set_option maxRecDepth 100000 in
theorem contract (H : Type) (enc : TypeId × Value → H) (W : World) (base : Nat) (args : Array Value) (ds gs : List (DataW H)) (before : List MemPlace)
    (hval : ∀ (j : Nat) t v, Tryz.f6.params[j]? = some t → args[j]? = some v → Value.okWide Tryz.prog W .any base t v)
    (hW : DataW.Whole enc Tryz.prog Tryz.f6.params.toList Rows.clockBackSpec.vars false W args.toList ds gs before) (hL : laidMetH Tryz.prog Rows.clockBackRow.laid W) :
    Calls Tryz.prog 6 args W fun e W' => ∃ v, e = .returned v ∧ Rows.clockBackSpec.post enc Tryz.prog Tryz.f6 false true false false W args v W' := by
  have hW' := hW
  obtain ⟨p, q, hA0, hV, rfl, hfz, hnd⟩ := hW
  have hA : DataW.TrodAll enc Tryz.prog W 0 (fun _ => true) true Tryz.f6.params.toList args.toList ds p := hA0
  rw [Tryz.params6] at hA hval
  obtain ⟨v0, vs0, d0, ds0, p0, q0, hargs, rfl, rfl, h0, r0⟩ := trodAll_cons hA
  obtain ⟨v1, vs1, d1, ds1, p1, q1, rfl, rfl, rfl, h1, r1⟩ := trodAll_cons r0
  obtain ⟨rfl, rfl, rfl⟩ := trodAll_nil r1
  obtain rfl : args = #[v0, v1] := Array.toList_inj.1 hargs
  obtain ⟨rfl, rfl⟩ := trodVars_none hV
  obtain ⟨c0_0, c0_1, c0_2, y0_0, y0_1, y0_2, m0, rfl, rfl, rfl, g0_0, g0_1, g0_2⟩ := open_agg3 Tryz.underlying24 (by kernel_rfl) cells0 (hval 0 24 v0 rfl rfl) h0
  obtain ⟨x0_0, e0_0, rfl, k0_0⟩ := DataW.trod_int Tryz.underlying22 g0_0
  obtain ⟨x0_1, e0_1, rfl, k0_1⟩ := DataW.trod_int Tryz.underlying3 g0_1
  obtain ⟨x0_2, e0_2, rfl, k0_2⟩ := DataW.trod_int Tryz.underlying3 g0_2
  simp at e0_0 e0_1 e0_2
  subst e0_0 e0_1 e0_2
  obtain ⟨c1_0, c1_1, c1_2, c1_3, c1_4, y1_0, y1_1, y1_2, y1_3, y1_4, m1, rfl, rfl, rfl, g1_0, g1_1, g1_2, g1_3, g1_4⟩ := open_agg5 Tryz.underlying43 (by kernel_rfl) cells1 (hval 1 43 v1 rfl rfl) h1
  obtain ⟨x1_0, e1_0, rfl, k1_0⟩ := DataW.trod_int Tryz.underlying3 g1_0
  obtain ⟨x1_1, e1_1, rfl, k1_1⟩ := DataW.trod_int Tryz.underlying3 g1_1
  obtain ⟨x1_2, e1_2, rfl, k1_2⟩ := DataW.trod_int Tryz.underlying3 g1_2
  obtain ⟨x1_3, e1_3, rfl, k1_3⟩ := DataW.trod_int Tryz.underlying3 g1_3
  obtain ⟨x1_4, e1_4, rfl, k1_4⟩ := DataW.trod_int Tryz.underlying3 g1_4
  simp at e1_0 e1_1 e1_2 e1_3 e1_4
  subst e1_0 e1_1 e1_2 e1_3 e1_4
  exact law_done rfl rfl rfl (by kernel_rfl) hW' (clockBack_walk x0_0 x0_1 x0_2 x1_0 x1_1 x1_2 x1_3 x1_4 W (errT hL) (tabs hL).1 (tabs hL).2)
theorem laid_met (os : Os) : laidMetH Tryz.prog Rows.clockBackRow.laid ((laidWorld os).forCall (fun _ _ => 0) ⟨#[], #[.agg #[.int .i64 0, .int .i64 0, .int .i64 0], .agg #[.int .i64 0, .int .i64 0, .int .i64 0, .int .i64 0, .int .i64 0]], []⟩).memory :=
  laidMetH_of_parts (laidMet_of_run' 8 (by kernel_rfl) (by kernel_rfl)) (by kernel_rfl)
theorem reads (os : Os) {H : Type} (enc : TypeId × Value → H) : ∃ places, DataW.whole enc Tryz.prog ((laidWorld os).forCall (fun _ _ => 0) ⟨#[], #[.agg #[.int .i64 0, .int .i64 0, .int .i64 0], .agg #[.int .i64 0, .int .i64 0, .int .i64 0, .int .i64 0, .int .i64 0]], []⟩).memory Tryz.f6.params.toList Rows.clockBackSpec.vars false (#[.agg #[.int .i64 0, .int .i64 0, .int .i64 0], .agg #[.int .i64 0, .int .i64 0, .int .i64 0, .int .i64 0, .int .i64 0]] : Array Value).toList 8 = some ([.agg [.lit (.int .i64 0), .lit (.int .i64 0), .lit (.int .i64 0)], .agg [.lit (.int .i64 0), .lit (.int .i64 0), .lit (.int .i64 0), .lit (.int .i64 0), .lit (.int .i64 0)]], [], places) :=
  ⟨[], by kernel_rfl⟩
set_option maxRecDepth 100000 in
theorem lifted (os : Os) (started : os.Started) (H : Type) (enc : TypeId × Value → H) (F : Stop.Interp) :
    ReturnsInHanded {} Tryz.checked os 6 .any ((OpenSpec.ofChange Rows.clockBackSpec).preRow enc Tryz.prog Tryz.f6 Rows.clockBackRow.domain false Rows.clockBackRow.laid) (((OpenSpec.ofChange Rows.clockBackSpec).at F).post enc Tryz.prog Tryz.f6 false true false false) := by
  obtain ⟨places, hx⟩ := reads os enc
  refine returnsInHanded_of_row (C := Tryz.checked) (s := OpenSpec.ofChange Rows.clockBackSpec) Tryz.own started (by kernel_rfl) Tryz.func6
    (witness_row_at (enc := enc) (C := Tryz.checked) false (laidWorld os) #[.agg #[.int .i64 0, .int .i64 0, .int .i64 0], .agg #[.int .i64 0, .int .i64 0, .int .i64 0, .int .i64 0, .int .i64 0]] rfl (by kernel_rfl) (by kernel_rfl) (by kernel_rfl)
      (OpenSpec.preRow_of_cond 8 hx (by kernel_rfl) (fun k hk => by cases hk) (by kernel_rfl) (laid_met os))) ?_
  intro W base args ds gs before hval hW _ _ _ hL _ _
  exact contract H enc W base args ds gs before hval hW hL
theorem said : Rows.ClockBackSaid :=
  OpenClaim.holds_of_cond 6 Tryz.f6 rfl rfl rfl rfl rfl rfl rfl ⟨rfl, rfl, rfl, rfl, rfl⟩ rfl rfl rfl rfl rfl (by kernel_rfl) Tryz.func6 (by kernel_rfl)
    (of_decide_eq_true (by kernel_rfl)) (by unfold Func.isWrapper; first | (rw [if_pos (by decide +kernel)]; kernel_rfl) | (rw [if_neg (by decide +kernel)]; exact ⟨rfl, rfl⟩))
    (fun os started H enc _ F => by rw [OpenClaim.pre_eq_preRow]; exact lifted os started H enc F)
theorem plain (f : FuncId) (fn : Func) (hf : Tryz.pinned.checked.prog.funcNamed "almanac/almanackeep.ClockBack" = some f) (hfn : Tryz.pinned.checked.prog.funcs[f]? = some fn) :
    true = Tryz.pinned.checked.prog.looks [] ∧ ∀ (j : Nat) t, fn.params[j]? = some t → Tryz.pinned.checked.prog.wantsStandIn t = false := by
  obtain rfl : f = 6 := Option.some.inj ((show Tryz.prog.funcNamed "almanac/almanackeep.ClockBack" = some 6 by kernel_rfl).symm.trans hf) |>.symm
  obtain rfl : fn = Tryz.f6 := (Option.some.inj (Tryz.func6.symm.trans hfn)).symm
  refine ⟨by kernel_rfl, fun j t ht => ?_⟩
  have h := (show Tryz.f6.params.all (fun t => !Tryz.prog.wantsStandIn t) = true by kernel_rfl)
  have := Array.all_eq_true_iff_forall_mem.1 h t (Array.mem_of_getElem? ht)
  show Tryz.prog.wantsStandIn t = false
  simpa using this
end Go.Proofs.YtkfpnlenmdlmjaaGreatDoor.clockBack
namespace Go.Proofs.YtkfpnlenmdlmjaaGreatDoor
open Go.ChangeShapes Go.WideShapes Go.ChangeAt Go.RowKit
/-- THE CARD of ClockBack. -/
theorem clockBack_card : Rows.ClockBackCardSaid :=
  Claim7.holds_tied_plain_at .later [] _ _ _ _ clockBack.said (fun _ h => by cases h) (by kernel_rfl) (fun _ h => by cases h) clockBack_row_tie rfl ⟨rfl, rfl⟩ (by kernel_rfl) rfl clockBack.plain (by kernel_rfl)
end Go.Proofs.YtkfpnlenmdlmjaaGreatDoor
