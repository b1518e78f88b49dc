/- The document's Escape. -/
import Derived.Test.YtidgahnamdhflaaDoorLstB
namespace Go.Proofs.YtidgahnamdhflaaDoor
open Go.RowKit Go.Shelf Fld
end Go.Proofs.YtidgahnamdhflaaDoor
