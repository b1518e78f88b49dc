/- The law SpanKeeps: what the search finds holds. (under way: the walk is not typed yet) -/
import Derived.Test.YtpmppgmnnnlonaaDoorKeepC
namespace Go.Proofs.YtpmppgmnnnlonaaDoor
open Go.RowKit
theorem sol_holdB {n : Nat} {L : Nat → Nat} {z : Nat → Nat → Int} {X : Nat → Nat → Nat} {t : List Pr} (hE : netE n L z = 0) (hX : TopP n (fun i k => (z i k).toNat) X) (hz : ∀ i k, i < n → k < n → X i k ≠ 0) (h : IsF n (accP X) n [] (some t)) : holdE n L z t.length (fun i => ((t.getD i pD).1 : Int)) (fun i => ((t.getD i pD).2 : Int)) = 0 ∧ holdB n L z t.length (fun i => ((t.getD i pD).1 : Int)) (fun i => ((t.getD i pD).2 : Int)) = true := by
  have hN : SmallX n (fun i k => (z i k).toNat) := fun i k hi hk => by
    have h := ((net_ok hE).2.2 i hi).2 k hk
    unfold okS at h
    dsimp only; omega
  obtain ⟨h1, h2, h3⟩ := solve_holds hN hX hz h
  have hE2 := holdE_ok (m := t.length) (x := fun i => ((t.getD i pD).1 : Int)) (y := fun i => ((t.getD i pD).2 : Int)) hE h1 (fun i hi => by have := (h2 i (by omega)).1; omega)
  exact ⟨hE2, holdB_yes hE2 fun i k hi hk => h3 i k hi hk⟩
end Go.Proofs.YtpmppgmnnnlonaaDoor
