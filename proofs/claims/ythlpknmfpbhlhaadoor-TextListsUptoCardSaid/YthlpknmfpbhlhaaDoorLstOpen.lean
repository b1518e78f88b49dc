/- A []string that came in, opened; its bulk. -/
import Derived.Test.YthlpknmfpbhlhaaDoorLstF
import Derived.Test.YthlpknmfpbhlhaaDoorFrame
import Derived.Deep.Strs
import Derived.ChangeSame
namespace Go.Proofs.YthlpknmfpbhlhaaDoor
open Go.ChangeShapes Go.WideShapes Go.ChangeAt Go.RowKit Go.Joins Go.Deep Fld
theorem bulk_strs {H : Type} (L : List ByteArray) : totN L ≤ Rows.uptoBulkAll (L.map fun s => (DataW.lit (.string s.data.toList) : DataW H)) := by
  unfold totN lists
  induction L with
  | nil => simp
  | cons x L ih =>
    simp only [List.map_cons, List.flatten_cons, List.length_append, Rows.uptoBulkAll, Rows.uptoBulk]
    omega
set_option maxRecDepth 100000 in
theorem open_strsA {H : Type} {enc : TypeId × Value → H} {W : World} {b0 : Nat} {r : Reach} {v : Value} {d : DataW H} {p : List MemPlace} (hv : Value.okWide Tryd.prog W r b0 22 v) (h : DataW.Trod enc Tryd.prog W 0 (fun _ => true) true 22 v d p) :
    ∃ (oa : Option Addr) (cap : Nat) (L : List ByteArray), v = .slice oa L.length cap ∧ L.length ≤ 9223372036854775807 ∧ StrsR W oa L ∧ totN L ≤ Rows.uptoBulk d := by
  obtain ⟨a0, len, cap, rfl⟩ := okWide_slice Tryd.underlying22 hv
  obtain ⟨fuel, hf⟩ := h
  rcases open_strs Tryd.underlying22 Tryd.underlying9 (by kernel_rfl) hf with ⟨hcs, _⟩ | ⟨a, len', cap', m, Sx, hcs, hb', hl', hm', hm, hx, hcell⟩
  · simp [Value.cells] at hcs
    obtain ⟨rfl, rfl, rfl⟩ := hcs
    exact ⟨none, 0, [], rfl, by simp, ⟨fun h => absurd h (Nat.lt_irrefl 0), fun a h => by cases h⟩, by simp [totN, lists]⟩
  · simp [Value.cells] at hcs
    obtain ⟨rfl, rfl, rfl⟩ := hcs
    simp only [if_true] at hm
    subst hm
    unfold maxLen at hm'
    have hd : d = .slice ((List.range len).map fun i => .lit (.string (Sx i).data.toList)) ((List.range (m - len)).map fun j => .lit (.string (Sx (len + j)).data.toList)) := congrArg Prod.fst hx
    have hl : ((List.range len).map Sx).length = len := by simp
    refine ⟨some a, m, (List.range len).map Sx, by rw [hl], by rw [hl]; omega, ⟨fun _ => ⟨a, rfl⟩, fun b hb => ?_⟩, ?_⟩
    · injection hb with hb
      subst hb
      rw [hl]
      refine ⟨fun h0 => ?_, fun i hi => ?_⟩
      · have := World.block_lt_of_cell? _ _ (hcell 0 (by omega)).1
        rwa [add_block] at this
      · rw [(hcell i (by omega)).1]
        simp [List.getD, hi]
    · rw [hd]
      have h1 := bulk_strs (H := H) ((List.range len).map Sx)
      rw [List.map_map] at h1
      simp only [Rows.uptoBulk]
      exact Nat.le_trans h1 (by show Rows.uptoBulkAll ((List.range len).map fun i => .lit (.string (Sx i).data.toList)) ≤ _; omega)
end Go.Proofs.YthlpknmfpbhlhaaDoor
