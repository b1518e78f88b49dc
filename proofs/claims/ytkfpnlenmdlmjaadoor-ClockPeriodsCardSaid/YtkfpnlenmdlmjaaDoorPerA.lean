/- Numbers as texts, and the table they lean on (ClockPeriods). -/
import Derived.Test.YtkfpnlenmdlmjaaDoorTabs
import Derived.Test.YtkfpnlenmdlmjaaDoorTxtLay
import Derived.Test.YtkfpnlenmdlmjaaDoorMore
import Derived.Test.YtkfpnlenmdlmjaaDoorQTail
import Derived.Lib.Hide
import Derived.Lib.ItoaLen
import Derived.Lib.AppendIntMem
import Derived.WalkSmall
import Derived.IntWalk
namespace Go.Proofs.YtkfpnlenmdlmjaaDoor
open Go.RowKit Go.Shelf
theorem str_eqT {l : List UInt8} {s : ByteArray} (h : s.data.toList = l) : (⟨l.toArray⟩ : ByteArray) = s := by subst h; simp
theorem app_eqT (a b : ByteArray) : (a ++ b).data.toList = a.data.toList ++ b.data.toList := by rw [ByteArray.data_append, Array.toList_append]
/-- The library's table of powers of ten lies where it lies. -/
def Pow (w : World) : Prop := Lib.TabIs Tryd.prog w "internal/strconv.uint64pow10" .u64 Lib.pow10Tab
theorem Tryd.gPow : Tryd.prog.globalNamed "internal/strconv.uint64pow10" = some 1 := by kernel_rfl
theorem Pow.lt {w : World} (h : Pow w) : 1 < w.heap.size :=
  World.block_lt_of_cell? _ _ (Lib.TabIs.cell h Tryd.gPow 0 (by decide))
theorem Pow.call {w w' : World} (h : Pow w) (hb : Below w.heap.size w w') : Pow w' := var?_below hb Tryd.gPow h.lt h
theorem itoaP (n : Int) (w : World) (hp : Pow w) (h0 : -9223372036854775808 ≤ n) (h1 : n ≤ 9223372036854775807) :
    Calls Tryd.prog 11 #[.int .i64 n] w fun e w' => e = .returned (.string ⟨(Lib.itoa n).toArray⟩) ∧ Below w.heap.size w w' := by
  have c := Any.strconv_Itoa layIt n h0 h1 w hp
  refine c.mono ?_
  rintro e w' ⟨rfl, k, os, rfl⟩
  exact ⟨rfl, Lib.below_grow _ _ (Nat.le_refl _) _ _⟩
end Go.Proofs.YtkfpnlenmdlmjaaDoor
