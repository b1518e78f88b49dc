/- An index into an array that is a value. -/
import Derived.WalkKit
import Derived.ChangeKeysEq
namespace Go.Proofs.YtbgcccfgcdkmdaaGreatDoor
open Go.RowKit
theorem index_agg {P : Program} {t e : TypeId} {n : Nat} {i0 : TypeInfo} {cs : Array Value} {v : Value} (h : P.underlying t = some (.array n e)) (hi : P.info? e = some i0) (hc : P.cellsOf e = 1) (ha : ∀ w, (isAgg e).run P w = .ok false w) (k : IntKind) (i : Nat) (hin : i < n) (hv : cs[i]? = some v) (w : World) : (Instr.index t (.agg cs) (.int k (i : Int))).run P w = .ok v w := by
  have h0 : (0 : Int) ≤ (i : Int) ∧ (i : Int) < (n : Int) := by omega
  simp [Instr.index, run_underlying h, asIntOf, h0, hin, run_sizeOf w hi, hc, ha, hv, go_sem]
theorem slice_arr {P : Program} {t e : TypeId} {n : Nat} {i0 : TypeInfo} (h : P.underlying t = some (.array n e)) (hi : P.info? e = some i0) (hc : P.cellsOf e = 1) (B l : Nat) (x : Int) (hx : x = (l : Int)) (hl : l ≤ n) (w : World) : (Instr.sliceAt t (.pointer (some ⟨B, 0, none⟩)) (some (.int .i64 x)) none none).run P w = .ok (.slice (some (if n = l then ⟨B, 0, none⟩ else ⟨B, l, none⟩)) (n - l) (n - l)) w := by
  subst hx
  have h0 : (0 : Int) ≤ (l : Int) ∧ (l : Int) ≤ (n : Int) := by omega
  by_cases hz : l = 0 <;> simp [Instr.sliceAt, Instr.sureAddr, Instr.sliceBounds, run_underlying h, h0, hz, run_sizeOf w hi, hc, go_sem, Addr.add]
end Go.Proofs.YtbgcccfgcdkmdaaGreatDoor
