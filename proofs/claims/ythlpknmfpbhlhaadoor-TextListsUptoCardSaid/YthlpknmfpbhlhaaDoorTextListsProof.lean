/- The law TextLists, where what it reads is of bulk at most 1048576: the row and its card: text.Escape, Items and Join answer as the document says: for every such input the law returns true, and the input reads as it did. -/
import Derived.Test.YthlpknmfpbhlhaaDoorFrame
import Derived.Test.YthlpknmfpbhlhaaDoorLstG
import Derived.Test.YthlpknmfpbhlhaaDoorLstOpen
namespace Go.Proofs.YthlpknmfpbhlhaaDoor.textLists
open Go.ChangeShapes Go.WideShapes Go.ChangeAt Go.RowKit Go.Joins
open Go.ChangeMaps (open_string shut_string)
/-- WHAT THE ROW's LIST GIVES. -/
theorem errT {W : World} (h : laidMetH Tryd.prog Rows.textListsUptoRow.laid W) : ErrT W := errT_handles (laidMetH_iff.1 h).2 (List.mem_filter.2 ⟨by simp [Rows.textListsUptoRow], by kernel_rfl⟩)
set_option maxRecDepth 100000 in
theorem contract (H : Type) (enc : TypeId × Value → H) (W : World) (base : Nat) (args : Array Value) (ds gs : List (DataW H)) (before : List MemPlace)
    (hval : ∀ (j : Nat) t v, Tryd.f3.params[j]? = some t → args[j]? = some v → Value.okWide Tryd.prog W .any base t v)
    (hW : DataW.Whole enc Tryd.prog Tryd.f3.params.toList Rows.textListsSpec.vars false W args.toList ds gs before) (hL : laidMetH Tryd.prog Rows.textListsUptoRow.laid W) (hk : Rows.uptoSmall H (ds ++ gs) = true) :
    Calls Tryd.prog 3 args W fun e W' => ∃ v, e = .returned v ∧ Rows.textListsSpec.post enc Tryd.prog Tryd.f3 false true false false W args v W' := by
  have hW' := hW
  obtain ⟨p, q, hA0, hV, rfl, hfz, hnd⟩ := hW
  have hA : DataW.TrodAll enc Tryd.prog W 0 (fun _ => true) true Tryd.f3.params.toList args.toList ds p := hA0
  rw [Tryd.params3] at hA hval
  obtain ⟨v0, vs0, d0, ds0, p0, q0, hargs, rfl, rfl, h0, r0⟩ := trodAll_cons hA
  obtain ⟨v1, vs1, d1, ds1, p1, q1, rfl, rfl, rfl, h1, r1⟩ := trodAll_cons r0
  obtain ⟨rfl, rfl, rfl⟩ := trodAll_nil r1
  obtain rfl : args = #[v0, v1] := Array.toList_inj.1 hargs
  obtain ⟨rfl, rfl⟩ := trodVars_none hV
  obtain ⟨oa0, cap0, L0, rfl, hm0, hs0, hz0⟩ := open_strsA (hval 0 22 v0 rfl rfl) h0
  obtain ⟨x1, rfl, rfl, rfl, k1⟩ := open_string Tryd.underlying9 (hval 1 9 v1 rfl rfl) h1
  have hk2 := of_decide_eq_true hk
  simp only [List.cons_append, List.nil_append, Rows.uptoBulkAll, Rows.uptoBulk] at hk2
  exact law_done rfl rfl rfl (by kernel_rfl) hW' (textLists_walk oa0 L0 L0.length cap0 x1 W (errT hL) rfl hm0 hs0 (Nat.le_trans hz0 (by omega)) (by have := len_eq x1; omega))
theorem laid_met (os : Os) : laidMetH Tryd.prog Rows.textListsUptoRow.laid ((laidWorld os).forCall (fun _ _ => 0) ⟨#[], #[.slice none 0 0, .string ByteArray.empty], []⟩).memory :=
  laidMetH_of_parts (laidMet_nil _ _) (by kernel_rfl)
theorem reads (os : Os) {H : Type} (enc : TypeId × Value → H) : ∃ places, DataW.whole enc Tryd.prog ((laidWorld os).forCall (fun _ _ => 0) ⟨#[], #[.slice none 0 0, .string ByteArray.empty], []⟩).memory Tryd.f3.params.toList Rows.textListsSpec.vars false (#[.slice none 0 0, .string ByteArray.empty] : Array Value).toList 8 = some ([.nil, .lit (.string [])], [], places) :=
  ⟨[], by kernel_rfl⟩
set_option maxRecDepth 100000 in
theorem lifted (os : Os) (started : os.Started) (H : Type) (enc : TypeId × Value → H) (F : Stop.Interp) :
    ReturnsInHanded {} Tryd.checked os 3 .any ((Rows.OpenSpec.upto Rows.textListsSpec).preRow enc Tryd.prog Tryd.f3 Rows.textListsUptoRow.domain false Rows.textListsUptoRow.laid) (((Rows.OpenSpec.upto Rows.textListsSpec).at F).post enc Tryd.prog Tryd.f3 false true false false) := by
  obtain ⟨places, hx⟩ := reads os enc
  refine returnsInHanded_of_row (C := Tryd.checked) (s := Rows.OpenSpec.upto Rows.textListsSpec) Tryd.own started (by kernel_rfl) Tryd.func3
    (witness_row_at (enc := enc) (C := Tryd.checked) false (laidWorld os) #[.slice none 0 0, .string ByteArray.empty] rfl (by kernel_rfl) (by kernel_rfl) (by kernel_rfl)
      (OpenSpec.preRow_of_cond 8 hx (by kernel_rfl) (fun k hk => by cases hk; kernel_rfl) (by kernel_rfl) (laid_met os))) ?_
  intro W base args ds gs before hval hW _ hk _ hL _ _
  exact contract H enc W base args ds gs before hval hW hL (hk _ rfl)
theorem said : Rows.TextListsUptoSaid :=
  OpenClaim.holds_of_cond 3 Tryd.f3 rfl rfl rfl rfl rfl rfl rfl ⟨rfl, rfl, rfl, rfl, rfl⟩ rfl rfl rfl rfl rfl (by kernel_rfl) Tryd.func3 (by kernel_rfl)
    (of_decide_eq_true (by kernel_rfl)) (by unfold Func.isWrapper; first | (rw [if_pos (by decide +kernel)]; kernel_rfl) | (rw [if_neg (by decide +kernel)]; exact ⟨rfl, rfl⟩))
    (fun os started H enc _ F => by rw [OpenClaim.pre_eq_preRow]; exact lifted os started H enc F)
theorem plain (f : FuncId) (fn : Func) (hf : Tryd.pinned.checked.prog.funcNamed "almanac/almanaclaw.TextLists" = some f) (hfn : Tryd.pinned.checked.prog.funcs[f]? = some fn) :
    true = Tryd.pinned.checked.prog.looks [] ∧ ∀ (j : Nat) t, fn.params[j]? = some t → Tryd.pinned.checked.prog.wantsStandIn t = false := by
  obtain rfl : f = 3 := Option.some.inj ((show Tryd.prog.funcNamed "almanac/almanaclaw.TextLists" = some 3 by kernel_rfl).symm.trans hf) |>.symm
  obtain rfl : fn = Tryd.f3 := (Option.some.inj (Tryd.func3.symm.trans hfn)).symm
  refine ⟨by kernel_rfl, fun j t ht => ?_⟩
  have h := (show Tryd.f3.params.all (fun t => !Tryd.prog.wantsStandIn t) = true by kernel_rfl)
  have := Array.all_eq_true_iff_forall_mem.1 h t (Array.mem_of_getElem? ht)
  show Tryd.prog.wantsStandIn t = false
  simpa using this
end Go.Proofs.YthlpknmfpbhlhaaDoor.textLists
namespace Go.Proofs.YthlpknmfpbhlhaaDoor
open Go.ChangeShapes Go.WideShapes Go.ChangeAt Go.RowKit
/-- THE CARD of TextLists. -/
theorem textLists_upto_card : Rows.TextListsUptoCardSaid :=
  Claim7.holds_tied_plain_at .later [] _ _ _ _ textLists.said (fun _ h => by cases h) (by kernel_rfl) (fun _ h => by cases h) textListsUpto_row_tie rfl ⟨rfl, rfl⟩ (by kernel_rfl) rfl textLists.plain (by kernel_rfl)
end Go.Proofs.YthlpknmfpbhlhaaDoor
