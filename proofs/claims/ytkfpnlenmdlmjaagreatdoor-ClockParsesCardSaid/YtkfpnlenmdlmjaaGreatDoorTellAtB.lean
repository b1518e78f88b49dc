/- errors.As at an error that is an *api.At, at the target '**api.At'; api.Tell and plain.where. Printed out of Tell by a program of mine. -/
import Derived.Test.YtkfpnlenmdlmjaaGreatDoorTellAt
namespace Go.Proofs.YtkfpnlenmdlmjaaGreatDoor
open Go.RowKit Go.Extern.Stop Go.Stop Go.Extern

theorem Tryz.valueOfPQ (t : Addr) (w : World) : (ReflectliteValue.unpack (.iface 106 (.pointer (some t)))).run Tryz.prog w
    = .ok (.agg #[.pointer (some ⟨6, 106, none⟩), .pointer (some ⟨w.heap.size, 0, none⟩), .int .u64 150]) (w.alloc (.cells #[.pointer (some t)] 106)) := by kernel_rfl
theorem Tryz.typePQ (a : Addr) (w : World) : (ReflectliteValue.methodAny (ReflectliteValue.valueError "reflectlite.Value.Type" 0) (fun t _ _ _ => ReflectliteType.toType t) #[.agg #[.pointer (some ⟨6, 106, none⟩), .pointer (some a), .int .u64 150]]).run Tryz.prog w
    = .ok (.iface 186 (.agg #[.pointer (some ⟨6, 106, none⟩)])) w := by kernel_rfl
theorem Tryz.kindPQ (w : World) : ((ReflectliteType.abiMethod fun t => (fun a : Nat => Value.int IntKind.u8 (a : Int)) <$> Rtype.kind t) #[.pointer (some ⟨6, 106, none⟩)]).run Tryz.prog w = .ok (.int .u8 22) w := by kernel_rfl
theorem Tryz.kindEQ (w : World) : ((ReflectliteType.abiMethod fun t => (fun a : Nat => Value.int IntKind.u8 (a : Int)) <$> Rtype.kind t) #[.pointer (some ⟨6, 105, none⟩)]).run Tryz.prog w = .ok (.int .u8 22) w := by kernel_rfl


theorem Tryz.partsPQ (a : Addr) (w : World) : (ReflectliteValue.parts (.agg #[.pointer (some ⟨6, 106, none⟩), .pointer (some a), .int .u64 150])).run Tryz.prog w = .ok (some (106, a, 150)) w := by kernel_rfl
theorem Tryz.isNilPQ (a p : Addr) (W : World) (ha : W.cell? a = some (.pointer (some p))) :
    (ReflectliteValue.method (ReflectliteValue.valueError "reflectlite.Value.IsNil" 0) ReflectliteValue.isNil #[.agg #[.pointer (some ⟨6, 106, none⟩), .pointer (some a), .int .u64 150]]).run Tryz.prog W = .ok (.bool false) W := by
  rw [rlm]
  simp only [Sem.run_bind, Tryz.partsPQ, Result.andThen]
  simp [ReflectliteValue.isNil, loadVar, isAgg, underlying, Tryz.underlying106, ha, Result.andThen]

theorem Tryz.elemPQ (w : World) : (ReflectliteType.method ReflectliteType.elem #[.agg #[.pointer (some ⟨6, 106, none⟩)]]).run Tryz.prog w = .ok (.iface 186 (.agg #[.pointer (some ⟨6, 105, none⟩)])) w := by kernel_rfl
theorem Tryz.implementsEQ (w : World) : (ReflectliteType.relation "Implements" ReflectliteType.implements_ #[.agg #[.pointer (some ⟨6, 105, none⟩)], .iface 186 (.agg #[.pointer (some ⟨6, 49, none⟩)])]).run Tryz.prog w = .ok (.bool true) w := by kernel_rfl
theorem Tryz.typeOfEQ (v : Value) (w : World) : (ReflectliteType.typeOf #[.iface 105 v]).run Tryz.prog w = .ok (.iface 186 (.agg #[.pointer (some ⟨6, 105, none⟩)])) w := by kernel_rfl
theorem Tryz.assignableEQ (w : World) : (ReflectliteType.relation "AssignableTo" ReflectliteType.assignableTo #[.agg #[.pointer (some ⟨6, 105, none⟩)], .iface 186 (.agg #[.pointer (some ⟨6, 105, none⟩)])]).run Tryz.prog w = .ok (.bool true) w := by kernel_rfl
theorem Tryz.valueOfEQ (n : Addr) (w : World) : (ReflectliteValue.unpack (.iface 105 (.pointer (some n)))).run Tryz.prog w
    = .ok (.agg #[.pointer (some ⟨6, 105, none⟩), .pointer (some ⟨w.heap.size, 0, none⟩), .int .u64 150]) (w.alloc (.cells #[.pointer (some n)] 105)) := by kernel_rfl

theorem Tryz.elemOfPQ (w : World) : (Rtype.elem? 106).run Tryz.prog w = .ok (some 105) w := by kernel_rfl
theorem Tryz.mkEQ (p : Addr) (w : World) : (ReflectliteValue.mk 105 p ReflectliteValue.flagAddr).run Tryz.prog w = .ok (.agg #[.pointer (some ⟨6, 105, none⟩), .pointer (some p), .int .u64 406]) w := by kernel_rfl
theorem Tryz.elemVPQ (a p : Addr) (W : World) (ha : W.cell? a = some (.pointer (some p))) :
    (ReflectliteValue.method (ReflectliteValue.valueError "reflectlite.Value.Elem" 0) ReflectliteValue.elem #[.agg #[.pointer (some ⟨6, 106, none⟩), .pointer (some a), .int .u64 150]]).run Tryz.prog W
      = .ok (.agg #[.pointer (some ⟨6, 105, none⟩), .pointer (some p), .int .u64 406]) W := by
  rw [rlm]
  simp only [Sem.run_bind, Tryz.partsPQ, Result.andThen]
  simp [ReflectliteValue.elem, loadVar, isAgg, underlying, Tryz.underlying106, ha, Result.andThen, Tryz.elemOfPQ, Tryz.mkEQ]

theorem Tryz.partsEaQ (a : Addr) (w : World) : (ReflectliteValue.parts (.agg #[.pointer (some ⟨6, 105, none⟩), .pointer (some a), .int .u64 406])).run Tryz.prog w = .ok (some (105, a, 406)) w := by kernel_rfl
theorem Tryz.partsEQ (a : Addr) (w : World) : (ReflectliteValue.parts (.agg #[.pointer (some ⟨6, 105, none⟩), .pointer (some a), .int .u64 150])).run Tryz.prog w = .ok (some (105, a, 150)) w := by kernel_rfl
theorem Tryz.directEQ (w : World) : (Rtype.directlyAssignable 105 105).run Tryz.prog w = .ok true w := by kernel_rfl
theorem Tryz.setEQ (ta b : Addr) (n : Addr) (old : Value) (W : World) (hb : W.cell? b = some (.pointer (some n))) (ht : W.cell? ta = some old) (hf : W.frozen? ta = false) :
    (ReflectliteValue.set #[.agg #[.pointer (some ⟨6, 105, none⟩), .pointer (some ta), .int .u64 406], .agg #[.pointer (some ⟨6, 105, none⟩), .pointer (some b), .int .u64 150]]).run Tryz.prog W
      = .ok (.tuple #[]) (W.setCell ta (.pointer (some n))) := by
  rw [rls]
  simp only [Sem.run_bind, Tryz.partsEaQ, Tryz.partsEQ, Result.andThen]
  simp [ReflectliteValue.flagAddr, loadVar, isAgg, underlying, Tryz.underlying105, hb, Result.andThen, Tryz.directEQ, storeVar, Value.cells, storeCells, Addr.add]
  rw [run_store Tryz.prog W ta _ _ (by rfl)]
  simp [ht, hf]

set_option maxHeartbeats 4000000 in
theorem as_self (n : Addr) (t : Addr) (old : Value) (w : World) (hg : w.cell? ⟨0, 0, none⟩ = some (.iface 186 (.agg #[.pointer (some ⟨6, 49, none⟩)]))) (ht0 : w.cell? t = some old) (hf0 : w.frozen? t = false) :
    Calls Tryz.prog 47 #[.iface 105 (.pointer (some n)), .iface 106 (.pointer (some t))] w fun ev w' => ev = .returned (.bool true) ∧ w' = ((((w.alloc (.cells #[.pointer (some t)] 106)).alloc (.cells #[.pointer (some ⟨6, 106, none⟩), .pointer (some ⟨w.heap.size, 0, none⟩), .int .u64 150] 155)).alloc (.cells #[.pointer (some ⟨6, 106, none⟩), .pointer (some ⟨w.heap.size, 0, none⟩), .int .u64 150] 155)).alloc (.cells #[.pointer (some n)] 105)).setCell t (.pointer (some n)) := by
  have h6 := @run_callFunc_extern Tryz.prog 83 _ (fun args => ReflectliteValue.unpack (args.getD 0 (.tuple #[]))) Tryz.func83 (by kernel_rfl) (by kernel_rfl) (by kernel_rfl) (by kernel_rfl)
  have h7 := @run_callFunc_extern Tryz.prog 84 _ (ReflectliteValue.methodAny (ReflectliteValue.valueError "reflectlite.Value.Type" 0) (fun t _ _ _ => ReflectliteType.toType t)) Tryz.func84 (by kernel_rfl) (by kernel_rfl) (by kernel_rfl) (by kernel_rfl)
  have h8 := @run_callFunc_extern Tryz.prog 85 _ (ReflectliteValue.method (ReflectliteValue.valueError "reflectlite.Value.IsNil" 0) ReflectliteValue.isNil) Tryz.func85 (by kernel_rfl) (by kernel_rfl) (by kernel_rfl) (by kernel_rfl)
  have h27 := @run_callFunc_extern Tryz.prog 195 _ (ReflectliteType.abiMethod fun t => do pure (.int .u8 (← Rtype.kind t))) Tryz.func195 (by kernel_rfl) (by kernel_rfl) (by kernel_rfl) (by kernel_rfl)
  have h37 := @run_callFunc_extern Tryz.prog 208 _ (ReflectliteType.method ReflectliteType.elem) Tryz.func208 (by kernel_rfl) (by kernel_rfl) (by kernel_rfl) (by kernel_rfl)
  have h38 := @run_callFunc_extern Tryz.prog 209 _ (ReflectliteType.relation "Implements" ReflectliteType.implements_) Tryz.func209 (by kernel_rfl) (by kernel_rfl) (by kernel_rfl) (by kernel_rfl)
  have h10 := @run_callFunc_extern Tryz.prog 112 _ ReflectliteType.typeOf Tryz.func112 (by kernel_rfl) (by kernel_rfl) (by kernel_rfl) (by kernel_rfl)
  have h35 := @run_callFunc_extern Tryz.prog 206 _ (ReflectliteType.relation "AssignableTo" ReflectliteType.assignableTo) Tryz.func206 (by kernel_rfl) (by kernel_rfl) (by kernel_rfl) (by kernel_rfl)
  have h11 := @run_callFunc_extern Tryz.prog 113 _ (ReflectliteValue.method (ReflectliteValue.valueError "reflectlite.Value.Elem" 0) ReflectliteValue.elem) Tryz.func113 (by kernel_rfl) (by kernel_rfl) (by kernel_rfl) (by kernel_rfl)
  have h12 := @run_callFunc_extern Tryz.prog 114 _ ReflectliteValue.set Tryz.func114 (by kernel_rfl) (by kernel_rfl) (by kernel_rfl) (by kernel_rfl)
  have tO := Tryz.typeOfEQ
  have mA := Tryz.methodAssignableTo
  have a25 := Tryz.assignableEQ
  have v25 := Tryz.valueOfEQ
  have f6 := Tryz.valueOfPQ
  have f7 := Tryz.typePQ
  have mK := Tryz.methodKind
  have mE := Tryz.methodElem
  have mI := Tryz.methodImplements
  have k27 := Tryz.kindPQ
  have k25 := Tryz.kindEQ
  have e27 := Tryz.elemPQ
  have i25 := Tryz.implementsEQ
  have n8 := Tryz.isNilPQ ⟨w.heap.size, 0, none⟩ t ((w.alloc (.cells #[.pointer (some t)] 106)).alloc (.cells #[.pointer (some ⟨6, 106, none⟩), .pointer (some ⟨w.heap.size, 0, none⟩), .int .u64 150] 155)) (by simp)
  have hlt : 0 < w.heap.size := by
    rcases Nat.lt_or_ge 0 w.heap.size with h | h
    · exact h
    · simp [World.cell?, Array.getElem?_eq_none h] at hg
  have hg2 : ((w.alloc (.cells #[.pointer (some t)] 106)).alloc (.cells #[.pointer (some ⟨6, 106, none⟩), .pointer (some ⟨w.heap.size, 0, none⟩), .int .u64 150] 155)).cell? ⟨0, 0, none⟩ = some (.iface 186 (.agg #[.pointer (some ⟨6, 49, none⟩)])) := by
    rw [World.cell?_alloc_lt _ _ ⟨0, 0, none⟩ (by simp <;> omega), World.cell?_alloc_lt _ _ ⟨0, 0, none⟩ hlt]; exact hg
  have htl : t.block < w.heap.size := by
    rcases Nat.lt_or_ge t.block w.heap.size with h | h
    · exact h
    · simp [World.cell?, Array.getElem?_eq_none h] at ht0
  have el := Tryz.elemVPQ ⟨w.heap.size, 0, none⟩ t (((w.alloc (.cells #[.pointer (some t)] 106)).alloc (.cells #[.pointer (some ⟨6, 106, none⟩), .pointer (some ⟨w.heap.size, 0, none⟩), .int .u64 150] 155)).alloc (.cells #[.pointer (some ⟨6, 106, none⟩), .pointer (some ⟨w.heap.size, 0, none⟩), .int .u64 150] 155)) (by rw [World.cell?_alloc_lt _ _ ⟨w.heap.size, 0, none⟩ (by simp <;> omega)]; simp)
  have st := Tryz.setEQ t ⟨w.heap.size + 1 + 1 + 1, 0, none⟩ n old ((((w.alloc (.cells #[.pointer (some t)] 106)).alloc (.cells #[.pointer (some ⟨6, 106, none⟩), .pointer (some ⟨w.heap.size, 0, none⟩), .int .u64 150] 155)).alloc (.cells #[.pointer (some ⟨6, 106, none⟩), .pointer (some ⟨w.heap.size, 0, none⟩), .int .u64 150] 155)).alloc (.cells #[.pointer (some n)] 105))
    (by rw [World.cell?_alloc_at _ _ _ _ (by simp)]; rfl)
    (by rw [World.cell?_alloc_lt _ _ t (by simp; omega), World.cell?_alloc_lt _ _ t (by simp; omega), World.cell?_alloc_lt _ _ t (by simp; omega), World.cell?_alloc_lt _ _ t htl]; exact ht0)
    (by rw [World.frozen?_alloc_old _ _ t (by simp; omega), World.frozen?_alloc_old _ _ t (by simp; omega), World.frozen?_alloc_old _ _ t (by simp; omega), World.frozen?_alloc_old _ _ t (Nat.ne_of_lt htl)]; exact hf0)
  go_enter Tryz.func47, Tryz.ntmps47
  go_wp2
  refine wp_loop_rounds 1 ?_
  rw [rounds_succ]
  go_wp2
  go_ret
  exact ⟨rfl, rfl⟩


end Go.Proofs.YtkfpnlenmdlmjaaGreatDoor
