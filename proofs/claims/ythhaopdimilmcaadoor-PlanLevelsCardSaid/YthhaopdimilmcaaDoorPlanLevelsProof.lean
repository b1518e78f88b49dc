/- The law PlanLevels: the row and its card. For every input the law returns true, and the input reads as it did. -/
import Derived.Test.YthhaopdimilmcaaDoorFrame
import Derived.Test.YthhaopdimilmcaaDoorPlnOpen
import Derived.Test.YthhaopdimilmcaaDoorLvrF
namespace Go.Proofs.YthhaopdimilmcaaDoor.planLevels
open Go.ChangeShapes Go.WideShapes Go.ChangeAt Go.RowKit Go.Joins
open Go.ChangeMaps (open_string shut_string)
/-- WHAT THE ROW's LIST GIVES. -/
theorem errT {W : World} (h : laidMetH Tryd.prog Rows.planLevelsRow.laid W) : ErrT W := errT_handles (laidMetH_iff.1 h).2 (List.mem_filter.2 ⟨by simp [Rows.planLevelsRow], by kernel_rfl⟩)
set_option maxRecDepth 100000 in
theorem contract (H : Type) (enc : TypeId × Value → H) (W : World) (base : Nat) (args : Array Value) (ds gs : List (DataW H)) (before : List MemPlace)
    (hval : ∀ (j : Nat) t v, Tryd.f6.params[j]? = some t → args[j]? = some v → Value.okWide Tryd.prog W .any base t v)
    (hW : DataW.Whole enc Tryd.prog Tryd.f6.params.toList Rows.planLevelsSpec.vars false W args.toList ds gs before) (hL : laidMetH Tryd.prog Rows.planLevelsRow.laid W) :
    Calls Tryd.prog 6 args W fun e W' => ∃ v, e = .returned v ∧ Rows.planLevelsSpec.post enc Tryd.prog Tryd.f6 false true false false W args v W' := by
  have hW' := hW
  obtain ⟨p, q, hA0, hV, rfl, hfz, hnd⟩ := hW
  have hA : DataW.TrodAll enc Tryd.prog W 0 (fun _ => true) true Tryd.f6.params.toList args.toList ds p := hA0
  rw [Tryd.params6] at hA hval
  obtain ⟨v0, vs0, d0, ds0, p0, q0, hargs, rfl, rfl, h0, r0⟩ := trodAll_cons hA
  obtain ⟨v1, vs1, d1, ds1, p1, q1, rfl, rfl, rfl, h1, r1⟩ := trodAll_cons r0
  obtain ⟨rfl, rfl, rfl⟩ := trodAll_nil r1
  obtain rfl : args = #[v0, v1] := Array.toList_inj.1 hargs
  obtain ⟨rfl, rfl⟩ := trodVars_none hV
  obtain ⟨oa0, cap0, AL0, AU0, CL0, CU0, T0, rfl, hn0, hl0, hr0⟩ := open_plan (hval 0 22 v0 rfl rfl) h0
  obtain ⟨ob1, m1, cap1, u1, rfl, hm1, hj1, hs1⟩ := open_intsA (hval 1 23 v1 rfl rfl) h1
  exact law_done rfl rfl rfl (by kernel_rfl) hW' (planLevels_walk oa0 cap0 AL0 AU0 CL0 CU0 T0 T0.n ob1 m1 cap1 u1 W (errT hL) rfl hn0 hl0 hr0 hm1 hs1)
theorem laid_met (os : Os) : laidMetH Tryd.prog Rows.planLevelsRow.laid ((laidWorld os).forCall (fun _ _ => 0) ⟨#[], #[.slice none 0 0, .slice none 0 0], []⟩).memory :=
  laidMetH_of_parts (laidMet_nil _ _) (by kernel_rfl)
theorem reads (os : Os) {H : Type} (enc : TypeId × Value → H) : ∃ places, DataW.whole enc Tryd.prog ((laidWorld os).forCall (fun _ _ => 0) ⟨#[], #[.slice none 0 0, .slice none 0 0], []⟩).memory Tryd.f6.params.toList Rows.planLevelsSpec.vars false (#[.slice none 0 0, .slice none 0 0] : Array Value).toList 8 = some ([.nil, .nil], [], places) :=
  ⟨[], by kernel_rfl⟩
set_option maxRecDepth 100000 in
theorem lifted (os : Os) (started : os.Started) (H : Type) (enc : TypeId × Value → H) (F : Stop.Interp) :
    ReturnsInHanded {} Tryd.checked os 6 .any ((OpenSpec.ofChange Rows.planLevelsSpec).preRow enc Tryd.prog Tryd.f6 Rows.planLevelsRow.domain false Rows.planLevelsRow.laid) (((OpenSpec.ofChange Rows.planLevelsSpec).at F).post enc Tryd.prog Tryd.f6 false true false false) := by
  obtain ⟨places, hx⟩ := reads os enc
  refine returnsInHanded_of_row (C := Tryd.checked) (s := OpenSpec.ofChange Rows.planLevelsSpec) Tryd.own started (by kernel_rfl) Tryd.func6
    (witness_row_at (enc := enc) (C := Tryd.checked) false (laidWorld os) #[.slice none 0 0, .slice none 0 0] rfl (by kernel_rfl) (by kernel_rfl) (by kernel_rfl)
      (OpenSpec.preRow_of_cond 8 hx (by kernel_rfl) (fun k hk => by cases hk) (by kernel_rfl) (laid_met os))) ?_
  intro W base args ds gs before hval hW _ _ _ hL _ _
  exact contract H enc W base args ds gs before hval hW hL
theorem said : Rows.PlanLevelsSaid :=
  OpenClaim.holds_of_cond 6 Tryd.f6 rfl rfl rfl rfl rfl rfl rfl ⟨rfl, rfl, rfl, rfl, rfl⟩ rfl rfl rfl rfl rfl (by kernel_rfl) Tryd.func6 (by kernel_rfl)
    (of_decide_eq_true (by kernel_rfl)) (by unfold Func.isWrapper; first | (rw [if_pos (by decide +kernel)]; kernel_rfl) | (rw [if_neg (by decide +kernel)]; exact ⟨rfl, rfl⟩))
    (fun os started H enc _ F => by rw [OpenClaim.pre_eq_preRow]; exact lifted os started H enc F)
theorem plain (f : FuncId) (fn : Func) (hf : Tryd.pinned.checked.prog.funcNamed "almanac/almanaclaw.PlanLevels" = some f) (hfn : Tryd.pinned.checked.prog.funcs[f]? = some fn) :
    true = Tryd.pinned.checked.prog.looks [] ∧ ∀ (j : Nat) t, fn.params[j]? = some t → Tryd.pinned.checked.prog.wantsStandIn t = false := by
  obtain rfl : f = 6 := Option.some.inj ((show Tryd.prog.funcNamed "almanac/almanaclaw.PlanLevels" = some 6 by kernel_rfl).symm.trans hf) |>.symm
  obtain rfl : fn = Tryd.f6 := (Option.some.inj (Tryd.func6.symm.trans hfn)).symm
  refine ⟨by kernel_rfl, fun j t ht => ?_⟩
  have h := (show Tryd.f6.params.all (fun t => !Tryd.prog.wantsStandIn t) = true by kernel_rfl)
  have := Array.all_eq_true_iff_forall_mem.1 h t (Array.mem_of_getElem? ht)
  show Tryd.prog.wantsStandIn t = false
  simpa using this
end Go.Proofs.YthhaopdimilmcaaDoor.planLevels
namespace Go.Proofs.YthhaopdimilmcaaDoor
open Go.ChangeShapes Go.WideShapes Go.ChangeAt Go.RowKit
/-- THE CARD of PlanLevels. -/
theorem planLevels_card : Rows.PlanLevelsCardSaid :=
  Claim7.holds_tied_plain_at .later [] _ _ _ _ planLevels.said (fun _ h => by cases h) (by kernel_rfl) (fun _ h => by cases h) planLevels_row_tie rfl ⟨rfl, rfl⟩ (by kernel_rfl) rfl planLevels.plain (by kernel_rfl)
end Go.Proofs.YthhaopdimilmcaaDoor
