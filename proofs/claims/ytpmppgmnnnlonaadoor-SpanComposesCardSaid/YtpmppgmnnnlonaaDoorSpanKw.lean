/- The law SpanComposes: one of its ways. -/
import Derived.Test.YtpmppgmnnnlonaaDoorSpanKa
import Derived.Test.YtpmppgmnnnlonaaDoorSpanKb
import Derived.Test.YtpmppgmnnnlonaaDoorSpanKc
namespace Go.Proofs.YtpmppgmnnnlonaaDoor
open Go.RowKit
theorem spanComposes_walk (a b c d e0 f0 p q : Int) (w : World) (hT : ErrT w) : Calls Tryd.prog 3 #[.agg #[.int .i64 a, .int .i64 b], .agg #[.int .i64 c, .int .i64 d], .agg #[.int .i64 e0, .int .i64 f0], .int .i64 p, .int .i64 q] w fun e w' => e = .returned (.bool true) ∧ Below w.heap.size w w' := by
  by_cases h : b ≤ a ∨ d ≤ c
  · exact composes_bad1 a b c d e0 f0 p q w hT h
  · by_cases h2 : f0 ≤ e0
    · exact composes_bad2 a b c d e0 f0 p q w hT (by omega) (by omega) h2
    · exact composes_good a b c d e0 f0 p q w hT (by omega) (by omega) (by omega)
end Go.Proofs.YtpmppgmnnnlonaaDoor
