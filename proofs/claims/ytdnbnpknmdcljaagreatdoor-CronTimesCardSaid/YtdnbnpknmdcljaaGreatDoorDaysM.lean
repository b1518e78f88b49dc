/- The number of a date: the program's. -/
import Derived.Test.YtdnbnpknmdcljaaGreatDoorDaysL
import Derived.Deep.QuietTactic
import Derived.BigQuiet
namespace Go.Proofs.YtdnbnpknmdcljaaGreatDoor
open Go.RowKit
def rangeR (x : Int) : Int := if -4000000 ≤ x ∧ x ≤ 4000000 then x else 0
def rangeE (x : Int) : Int := if -4000000 ≤ x ∧ x ≤ 4000000 then 0 else 4
theorem range_in {x : Int} (h1 : -4000000 ≤ x) (h2 : x ≤ 4000000) : rangeR x = x ∧ rangeE x = 0 := ⟨if_pos ⟨h1, h2⟩, if_pos ⟨h1, h2⟩⟩
theorem range_out {x : Int} (h : x < -4000000 ∨ 4000000 < x) : rangeR x = 0 ∧ rangeE x = 4 := ⟨if_neg (by omega), if_neg (by omega)⟩
theorem belowN {B : Nat} {a w : World} (h : Below B a w) (n : Nat) : Below B a (w.drewN n) := ⟨h.os, h.tape, h.output, h.size, h.block⟩
theorem quiet_left {P : Program} {f : FuncId} {args : Array Value} {w : World} {n : Nat} {v : Value}
    (h : Calls P f args (w.drewN n) fun e w' => e = .returned v ∧ w.drewN n = w') : Calls P f args (w.drewN n) fun e w'' => e = .returned v ∧ ∃ m, w'' = w.drewN m :=
  h.mono fun _ _ ⟨he, hm⟩ => ⟨he, n, hm.symm⟩
end Go.Proofs.YtdnbnpknmdcljaaGreatDoor
