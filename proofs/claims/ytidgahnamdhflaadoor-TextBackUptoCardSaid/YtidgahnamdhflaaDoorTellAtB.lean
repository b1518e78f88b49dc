/- errors.As at an error that is an *api.At, at the target '**api.At'; api.Tell and plain.where. Printed out of Tell by a program of mine. -/
import Derived.Test.YtidgahnamdhflaaDoorTellAt
namespace Go.Proofs.YtidgahnamdhflaaDoor
open Go.RowKit Go.Extern.Stop Go.Stop Go.Extern

theorem Tryd.valueOfPQ (t : Addr) (w : World) : (ReflectliteValue.unpack (.iface 86 (.pointer (some t)))).run Tryd.prog w
    = .ok (.agg #[.pointer (some ⟨4, 86, none⟩), .pointer (some ⟨w.heap.size, 0, none⟩), .int .u64 150]) (w.alloc (.cells #[.pointer (some t)] 86)) := by kernel_rfl
theorem Tryd.typePQ (a : Addr) (w : World) : (ReflectliteValue.methodAny (ReflectliteValue.valueError "reflectlite.Value.Type" 0) (fun t _ _ _ => ReflectliteType.toType t) #[.agg #[.pointer (some ⟨4, 86, none⟩), .pointer (some a), .int .u64 150]]).run Tryd.prog w
    = .ok (.iface 121 (.agg #[.pointer (some ⟨4, 86, none⟩)])) w := by kernel_rfl
theorem Tryd.kindPQ (w : World) : ((ReflectliteType.abiMethod fun t => (fun a : Nat => Value.int IntKind.u8 (a : Int)) <$> Rtype.kind t) #[.pointer (some ⟨4, 86, none⟩)]).run Tryd.prog w = .ok (.int .u8 22) w := by kernel_rfl
theorem Tryd.kindEQ (w : World) : ((ReflectliteType.abiMethod fun t => (fun a : Nat => Value.int IntKind.u8 (a : Int)) <$> Rtype.kind t) #[.pointer (some ⟨4, 84, none⟩)]).run Tryd.prog w = .ok (.int .u8 22) w := by kernel_rfl


theorem Tryd.partsPQ (a : Addr) (w : World) : (ReflectliteValue.parts (.agg #[.pointer (some ⟨4, 86, none⟩), .pointer (some a), .int .u64 150])).run Tryd.prog w = .ok (some (86, a, 150)) w := by kernel_rfl
theorem Tryd.isNilPQ (a p : Addr) (W : World) (ha : W.cell? a = some (.pointer (some p))) :
    (ReflectliteValue.method (ReflectliteValue.valueError "reflectlite.Value.IsNil" 0) ReflectliteValue.isNil #[.agg #[.pointer (some ⟨4, 86, none⟩), .pointer (some a), .int .u64 150]]).run Tryd.prog W = .ok (.bool false) W := by
  rw [rlm]
  simp only [Sem.run_bind, Tryd.partsPQ, Result.andThen]
  simp [ReflectliteValue.isNil, loadVar, isAgg, underlying, Tryd.underlying86, ha, Result.andThen]

theorem Tryd.elemPQ (w : World) : (ReflectliteType.method ReflectliteType.elem #[.agg #[.pointer (some ⟨4, 86, none⟩)]]).run Tryd.prog w = .ok (.iface 121 (.agg #[.pointer (some ⟨4, 84, none⟩)])) w := by kernel_rfl
theorem Tryd.implementsEQ (w : World) : (ReflectliteType.relation "Implements" ReflectliteType.implements_ #[.agg #[.pointer (some ⟨4, 84, none⟩)], .iface 121 (.agg #[.pointer (some ⟨4, 46, none⟩)])]).run Tryd.prog w = .ok (.bool true) w := by kernel_rfl
theorem Tryd.typeOfEQ (v : Value) (w : World) : (ReflectliteType.typeOf #[.iface 84 v]).run Tryd.prog w = .ok (.iface 121 (.agg #[.pointer (some ⟨4, 84, none⟩)])) w := by kernel_rfl
theorem Tryd.assignableEQ (w : World) : (ReflectliteType.relation "AssignableTo" ReflectliteType.assignableTo #[.agg #[.pointer (some ⟨4, 84, none⟩)], .iface 121 (.agg #[.pointer (some ⟨4, 84, none⟩)])]).run Tryd.prog w = .ok (.bool true) w := by kernel_rfl
theorem Tryd.valueOfEQ (n : Addr) (w : World) : (ReflectliteValue.unpack (.iface 84 (.pointer (some n)))).run Tryd.prog w
    = .ok (.agg #[.pointer (some ⟨4, 84, none⟩), .pointer (some ⟨w.heap.size, 0, none⟩), .int .u64 150]) (w.alloc (.cells #[.pointer (some n)] 84)) := by kernel_rfl

theorem Tryd.elemOfPQ (w : World) : (Rtype.elem? 86).run Tryd.prog w = .ok (some 84) w := by kernel_rfl
theorem Tryd.mkEQ (p : Addr) (w : World) : (ReflectliteValue.mk 84 p ReflectliteValue.flagAddr).run Tryd.prog w = .ok (.agg #[.pointer (some ⟨4, 84, none⟩), .pointer (some p), .int .u64 406]) w := by kernel_rfl
theorem Tryd.elemVPQ (a p : Addr) (W : World) (ha : W.cell? a = some (.pointer (some p))) :
    (ReflectliteValue.method (ReflectliteValue.valueError "reflectlite.Value.Elem" 0) ReflectliteValue.elem #[.agg #[.pointer (some ⟨4, 86, none⟩), .pointer (some a), .int .u64 150]]).run Tryd.prog W
      = .ok (.agg #[.pointer (some ⟨4, 84, none⟩), .pointer (some p), .int .u64 406]) W := by
  rw [rlm]
  simp only [Sem.run_bind, Tryd.partsPQ, Result.andThen]
  simp [ReflectliteValue.elem, loadVar, isAgg, underlying, Tryd.underlying86, ha, Result.andThen, Tryd.elemOfPQ, Tryd.mkEQ]

theorem Tryd.partsEaQ (a : Addr) (w : World) : (ReflectliteValue.parts (.agg #[.pointer (some ⟨4, 84, none⟩), .pointer (some a), .int .u64 406])).run Tryd.prog w = .ok (some (84, a, 406)) w := by kernel_rfl
theorem Tryd.partsEQ (a : Addr) (w : World) : (ReflectliteValue.parts (.agg #[.pointer (some ⟨4, 84, none⟩), .pointer (some a), .int .u64 150])).run Tryd.prog w = .ok (some (84, a, 150)) w := by kernel_rfl
theorem Tryd.directEQ (w : World) : (Rtype.directlyAssignable 84 84).run Tryd.prog w = .ok true w := by kernel_rfl
theorem Tryd.setEQ (ta b : Addr) (n : Addr) (old : Value) (W : World) (hb : W.cell? b = some (.pointer (some n))) (ht : W.cell? ta = some old) (hf : W.frozen? ta = false) :
    (ReflectliteValue.set #[.agg #[.pointer (some ⟨4, 84, none⟩), .pointer (some ta), .int .u64 406], .agg #[.pointer (some ⟨4, 84, none⟩), .pointer (some b), .int .u64 150]]).run Tryd.prog W
      = .ok (.tuple #[]) (W.setCell ta (.pointer (some n))) := by
  rw [rls]
  simp only [Sem.run_bind, Tryd.partsEaQ, Tryd.partsEQ, Result.andThen]
  simp [ReflectliteValue.flagAddr, loadVar, isAgg, underlying, Tryd.underlying84, hb, Result.andThen, Tryd.directEQ, storeVar, Value.cells, storeCells, Addr.add]
  rw [run_store Tryd.prog W ta _ _ (by rfl)]
  simp [ht, hf]

set_option maxHeartbeats 4000000 in
theorem as_self (n : Addr) (t : Addr) (old : Value) (w : World) (hg : w.cell? ⟨0, 0, none⟩ = some (.iface 121 (.agg #[.pointer (some ⟨4, 46, none⟩)]))) (ht0 : w.cell? t = some old) (hf0 : w.frozen? t = false) :
    Calls Tryd.prog 33 #[.iface 84 (.pointer (some n)), .iface 86 (.pointer (some t))] w fun ev w' => ev = .returned (.bool true) ∧ w' = ((((w.alloc (.cells #[.pointer (some t)] 86)).alloc (.cells #[.pointer (some ⟨4, 86, none⟩), .pointer (some ⟨w.heap.size, 0, none⟩), .int .u64 150] 100)).alloc (.cells #[.pointer (some ⟨4, 86, none⟩), .pointer (some ⟨w.heap.size, 0, none⟩), .int .u64 150] 100)).alloc (.cells #[.pointer (some n)] 84)).setCell t (.pointer (some n)) := by
  have h6 := @run_callFunc_extern Tryd.prog 52 _ (fun args => ReflectliteValue.unpack (args.getD 0 (.tuple #[]))) Tryd.func52 (by kernel_rfl) (by kernel_rfl) (by kernel_rfl) (by kernel_rfl)
  have h7 := @run_callFunc_extern Tryd.prog 53 _ (ReflectliteValue.methodAny (ReflectliteValue.valueError "reflectlite.Value.Type" 0) (fun t _ _ _ => ReflectliteType.toType t)) Tryd.func53 (by kernel_rfl) (by kernel_rfl) (by kernel_rfl) (by kernel_rfl)
  have h8 := @run_callFunc_extern Tryd.prog 54 _ (ReflectliteValue.method (ReflectliteValue.valueError "reflectlite.Value.IsNil" 0) ReflectliteValue.isNil) Tryd.func54 (by kernel_rfl) (by kernel_rfl) (by kernel_rfl) (by kernel_rfl)
  have h27 := @run_callFunc_extern Tryd.prog 121 _ (ReflectliteType.abiMethod fun t => do pure (.int .u8 (← Rtype.kind t))) Tryd.func121 (by kernel_rfl) (by kernel_rfl) (by kernel_rfl) (by kernel_rfl)
  have h37 := @run_callFunc_extern Tryd.prog 133 _ (ReflectliteType.method ReflectliteType.elem) Tryd.func133 (by kernel_rfl) (by kernel_rfl) (by kernel_rfl) (by kernel_rfl)
  have h38 := @run_callFunc_extern Tryd.prog 134 _ (ReflectliteType.relation "Implements" ReflectliteType.implements_) Tryd.func134 (by kernel_rfl) (by kernel_rfl) (by kernel_rfl) (by kernel_rfl)
  have h10 := @run_callFunc_extern Tryd.prog 70 _ ReflectliteType.typeOf Tryd.func70 (by kernel_rfl) (by kernel_rfl) (by kernel_rfl) (by kernel_rfl)
  have h35 := @run_callFunc_extern Tryd.prog 131 _ (ReflectliteType.relation "AssignableTo" ReflectliteType.assignableTo) Tryd.func131 (by kernel_rfl) (by kernel_rfl) (by kernel_rfl) (by kernel_rfl)
  have h11 := @run_callFunc_extern Tryd.prog 71 _ (ReflectliteValue.method (ReflectliteValue.valueError "reflectlite.Value.Elem" 0) ReflectliteValue.elem) Tryd.func71 (by kernel_rfl) (by kernel_rfl) (by kernel_rfl) (by kernel_rfl)
  have h12 := @run_callFunc_extern Tryd.prog 72 _ ReflectliteValue.set Tryd.func72 (by kernel_rfl) (by kernel_rfl) (by kernel_rfl) (by kernel_rfl)
  have tO := Tryd.typeOfEQ
  have mA := Tryd.methodAssignableTo
  have a25 := Tryd.assignableEQ
  have v25 := Tryd.valueOfEQ
  have f6 := Tryd.valueOfPQ
  have f7 := Tryd.typePQ
  have mK := Tryd.methodKind
  have mE := Tryd.methodElem
  have mI := Tryd.methodImplements
  have k27 := Tryd.kindPQ
  have k25 := Tryd.kindEQ
  have e27 := Tryd.elemPQ
  have i25 := Tryd.implementsEQ
  have n8 := Tryd.isNilPQ ⟨w.heap.size, 0, none⟩ t ((w.alloc (.cells #[.pointer (some t)] 86)).alloc (.cells #[.pointer (some ⟨4, 86, none⟩), .pointer (some ⟨w.heap.size, 0, none⟩), .int .u64 150] 100)) (by simp)
  have hlt : 0 < w.heap.size := by
    rcases Nat.lt_or_ge 0 w.heap.size with h | h
    · exact h
    · simp [World.cell?, Array.getElem?_eq_none h] at hg
  have hg2 : ((w.alloc (.cells #[.pointer (some t)] 86)).alloc (.cells #[.pointer (some ⟨4, 86, none⟩), .pointer (some ⟨w.heap.size, 0, none⟩), .int .u64 150] 100)).cell? ⟨0, 0, none⟩ = some (.iface 121 (.agg #[.pointer (some ⟨4, 46, none⟩)])) := by
    rw [World.cell?_alloc_lt _ _ ⟨0, 0, none⟩ (by simp <;> omega), World.cell?_alloc_lt _ _ ⟨0, 0, none⟩ hlt]; exact hg
  have htl : t.block < w.heap.size := by
    rcases Nat.lt_or_ge t.block w.heap.size with h | h
    · exact h
    · simp [World.cell?, Array.getElem?_eq_none h] at ht0
  have el := Tryd.elemVPQ ⟨w.heap.size, 0, none⟩ t (((w.alloc (.cells #[.pointer (some t)] 86)).alloc (.cells #[.pointer (some ⟨4, 86, none⟩), .pointer (some ⟨w.heap.size, 0, none⟩), .int .u64 150] 100)).alloc (.cells #[.pointer (some ⟨4, 86, none⟩), .pointer (some ⟨w.heap.size, 0, none⟩), .int .u64 150] 100)) (by rw [World.cell?_alloc_lt _ _ ⟨w.heap.size, 0, none⟩ (by simp <;> omega)]; simp)
  have st := Tryd.setEQ t ⟨w.heap.size + 1 + 1 + 1, 0, none⟩ n old ((((w.alloc (.cells #[.pointer (some t)] 86)).alloc (.cells #[.pointer (some ⟨4, 86, none⟩), .pointer (some ⟨w.heap.size, 0, none⟩), .int .u64 150] 100)).alloc (.cells #[.pointer (some ⟨4, 86, none⟩), .pointer (some ⟨w.heap.size, 0, none⟩), .int .u64 150] 100)).alloc (.cells #[.pointer (some n)] 84))
    (by rw [World.cell?_alloc_at _ _ _ _ (by simp)]; rfl)
    (by rw [World.cell?_alloc_lt _ _ t (by simp; omega), World.cell?_alloc_lt _ _ t (by simp; omega), World.cell?_alloc_lt _ _ t (by simp; omega), World.cell?_alloc_lt _ _ t htl]; exact ht0)
    (by rw [World.frozen?_alloc_old _ _ t (by simp; omega), World.frozen?_alloc_old _ _ t (by simp; omega), World.frozen?_alloc_old _ _ t (by simp; omega), World.frozen?_alloc_old _ _ t (Nat.ne_of_lt htl)]; exact hf0)
  go_enter Tryd.func33, Tryd.ntmps33
  go_wp2
  refine wp_loop_rounds 1 ?_
  rw [rounds_succ]
  go_wp2
  go_ret
  exact ⟨rfl, rfl⟩


end Go.Proofs.YtidgahnamdhflaaDoor
