/- The law BusyBest over what came in. -/
import Derived.Test.YtbmndenopgkpoaaDoorBsyOpen
import Derived.Test.YtbmndenopgkpoaaDoorBsyY
namespace Go.Proofs.YtbmndenopgkpoaaDoor
open Go.RowKit Wrk Go.Shelf
theorem busyBest_law (X : Wnt) (vm vs v1 : Value) (L1 : List (List Iv)) (w : World) (hT : ErrT w) (hm : IntC w vm X.must) (hs : IntC w vs X.should) (iSt : InI X.step) (hz : X.must.length + X.should.length ≤ 1048576) (h1 : SetsS w v1 L1) :
    Calls Tryd.prog 4 #[wantV X vm vs, v1] w fun e w' => e = .returned (.bool true) ∧ Below w.heap.size w w' :=
  busyBest_walk X vm vs v1 L1 w hT hm hs h1 hz iSt
end Go.Proofs.YtbmndenopgkpoaaDoor
