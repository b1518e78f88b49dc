/- Numbers that came in, opened. -/
import Derived.Test.YtikhjlankomghaaMomN
import Derived.Test.YtikhjlankomghaaMomOpen
import Derived.Deep.Matrix
namespace Go.Proofs.Ytikhjlankomghaa
open Go.ChangeShapes Go.WideShapes Go.ChangeAt Go.RowKit Go.Joins Go.Deep
set_option maxRecDepth 100000 in
theorem open_nums {H : Type} {enc : TypeId × Value → H} {W : World} {b0 : Nat} {r : Reach} {v : Value} {d : DataW H} {p : List MemPlace} (hv : Value.okWide Try.prog W r b0 23 v) (h : DataW.Trod enc Try.prog W 0 (fun _ => true) true 23 v d p) :
    ∃ (ob : Option Addr) (m cap : Nat) (u : Nat → Int), v = .slice ob m cap ∧ NumR W ob m u := by
  obtain ⟨a0, len, cap, rfl⟩ := okWide_slice Try.underlying23 hv
  obtain ⟨fuel, hf⟩ := h
  rcases open_ints Try.underlying23 Try.underlying3 (by kernel_rfl) hf with ⟨hcs, _⟩ | ⟨a, len', cap', zs, hcs, hb', hl', hm', hz, hy, hcell, hwz⟩
  · simp [Value.cells] at hcs
    obtain ⟨rfl, rfl, rfl⟩ := hcs
    exact ⟨none, 0, 0, fun _ => 0, rfl, fun h => absurd h (Nat.lt_irrefl 0), fun a h => by cases h⟩
  · simp [Value.cells] at hcs
    obtain ⟨rfl, rfl, rfl⟩ := hcs
    simp only [if_true] at hz
    refine ⟨some a, len, cap, fun i => zs.getD i 0, rfl, fun _ => ⟨a, rfl⟩, fun b hb => ?_⟩
    injection hb with hb
    subst hb
    refine ⟨fun h0 => ?_, fun i hi => hcell i (by omega)⟩
    have := World.block_lt_of_cell? _ _ (hcell 0 (by omega))
    rwa [ivAdd_block] at this
end Go.Proofs.Ytikhjlankomghaa
