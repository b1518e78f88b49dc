/- Contracts of the shelf, laid at this program: printed by lay.py out of the text that the kit's own command hands to Lean. -/
import Derived.Shelf.Lay
import Derived.Shelf.SlGeneric
import Derived.Shelf.Spec.SlicesGrow
import Derived.Ground.Names8Prog
import Derived.Test.YtbmndenopgkpoaaDoorProg
namespace Go.Proofs.YtbmndenopgkpoaaDoor
open Go.Shelf
def growInt_ren : Go.Shelf.Ren := ⟨fun | 4 => 47 | n => n, fun | 22 => 23 | 25 => 3 | 3 => 3 | 4 => 4 | 9 => 9 | 20 => 20 | 0 => 0 | n => n, fun | n => n⟩
theorem growInt : Go.Proofs.Lays8.n4 Tryd.prog growInt_ren := {
  mixed := (by kernel_rfl),
  f4 := ⟨Tryd.f47.name, by decide, Tryd.func47.trans (congrArg some (by kernel_rfl))⟩,
  t0 := Tryd.underlying0,
  a0 := Tryd.isAgg0,
  z0 := Tryd.sizeOf0,
  v0 := Tryd.zeroValue0,
  t3 := Tryd.underlying3,
  a3 := Tryd.isAgg3,
  z3 := Tryd.sizeOf3,
  v3 := Tryd.zeroValue3,
  t4 := Tryd.underlying4,
  a4 := Tryd.isAgg4,
  z4 := Tryd.sizeOf4,
  v4 := Tryd.zeroValue4,
  t9 := Tryd.underlying9,
  a9 := Tryd.isAgg9,
  z9 := Tryd.sizeOf9,
  v9 := Tryd.zeroValue9,
  t20 := Tryd.underlying20,
  a20 := Tryd.isAgg20,
  z20 := Tryd.sizeOf20,
  v20 := Tryd.zeroValue20,
  t22 := Tryd.underlying23,
  a22 := Tryd.isAgg23,
  z22 := Tryd.sizeOf23,
  v22 := Tryd.zeroValue23 }
end Go.Proofs.YtbmndenopgkpoaaDoor
