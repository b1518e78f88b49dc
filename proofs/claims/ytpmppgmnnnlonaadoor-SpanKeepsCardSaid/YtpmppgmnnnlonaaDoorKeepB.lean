/- What comes of a closure and of a search, as what came in. -/
import Derived.Test.YtpmppgmnnnlonaaDoorSolF
import Derived.Test.YtpmppgmnnnlonaaDoorKeepA
namespace Go.Proofs.YtpmppgmnnnlonaaDoor
open Go.RowKit
theorem MatR.net {w : World} {b O n : Nat} {R cp : Nat → Nat} {X : Nat → Nat → Nat} (h : MatR w b O n n R cp X) : NetR w (some ⟨O, 0, none⟩) n (fun i => some ⟨R i, 0, none⟩) (fun _ => n) cp (fun i k => (X i k : Int)) := by
  obtain ⟨⟨_, h2⟩, h3, _⟩ := h
  refine ⟨fun _ => ⟨_, rfl⟩, fun a ha => ?_⟩
  obtain rfl := Option.some.inj ha
  refine ⟨fun _ => h2, fun i hi => ?_⟩
  obtain ⟨g1, g2, g3, g4, g5⟩ := h3 i hi
  refine ⟨by rw [Addr.add_lit, Nat.zero_add]; exact g1, fun _ => ⟨_, rfl⟩, fun r hr => ?_⟩
  obtain rfl := Option.some.inj hr
  exact ⟨fun _ => g3, fun k hk => by rw [Addr.add_lit, Nat.zero_add]; exact (g5 k hk).1⟩
theorem SpanL.span {w : World} {b : Nat} {v : Value} {l : List Pr} (h : SpanL w b v l) : ∃ oa cap, v = .slice oa l.length cap ∧ SpanR w oa l.length (fun i => ((l.getD i pD).1 : Int)) (fun i => ((l.getD i pD).2 : Int)) := by
  obtain ⟨oa, cap, h1, _, _, h4⟩ := h
  refine ⟨oa, cap, h1, fun hp => ?_, fun a ha => ⟨fun hp => ?_, fun i hi => ?_⟩⟩
  · obtain ⟨g, hg, _⟩ := h4 hp; exact ⟨_, hg⟩
  · obtain ⟨g, hg, _, g3, _⟩ := h4 hp
    rw [hg] at ha
    obtain rfl := Option.some.inj ha
    exact g3
  · obtain ⟨g, hg, _, _, g5⟩ := h4 (by omega)
    rw [hg] at ha
    obtain rfl := Option.some.inj ha
    rw [Addr.add_lit, Addr.add_lit, Nat.zero_add, Nat.zero_add]
    exact g5 i hi
end Go.Proofs.YtpmppgmnnnlonaaDoor
