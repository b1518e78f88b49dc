/- Contracts of the shelf, laid at this program: printed by lay.py out of the text that the kit's own command hands to Lean. -/
import Derived.Shelf.Lay
import Derived.Shelf.SlGeneric
import Derived.Shelf.Small.Utf8
import Derived.Test.YtidgahnamdhflaaDoorProg
namespace Go.Proofs.YtidgahnamdhflaaDoor
open Go.Shelf
def layVR_ren : Go.Shelf.Ren := ⟨fun | 119 => 103 | n => n, fun | 21 => 21 | 4 => 4 | 20 => 20 | n => n, fun | n => n⟩
theorem layVR : Go.Proofs.Lays.n119 Tryd.prog layVR_ren := {
  mixed := (by kernel_rfl),
  f119 := Tryd.func103.trans (congrArg some (by kernel_rfl)),
  t4 := Tryd.underlying4,
  a4 := Tryd.isAgg4,
  z4 := Tryd.sizeOf4,
  v4 := Tryd.zeroValue4,
  t21 := Tryd.underlying21,
  a21 := Tryd.isAgg21,
  z21 := Tryd.sizeOf21,
  v21 := Tryd.zeroValue21 }
end Go.Proofs.YtidgahnamdhflaaDoor
