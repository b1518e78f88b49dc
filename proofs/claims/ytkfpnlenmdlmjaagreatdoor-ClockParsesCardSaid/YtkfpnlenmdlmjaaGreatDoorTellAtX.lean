/- errors.As of an Errno at the target '**api.At'; plain.where of an Errno. Printed out of TellAtB by a program of mine. -/
import Derived.Test.YtkfpnlenmdlmjaaGreatDoorTellAtC
namespace Go.Proofs.YtkfpnlenmdlmjaaGreatDoor
open Go.RowKit Go.Extern.Stop Go.Stop Go.Extern
theorem Tryz.assignableXQ (w : World) : (ReflectliteType.relation "AssignableTo" ReflectliteType.assignableTo #[.agg #[.pointer (some ⟨6, 25, none⟩)], .iface 186 (.agg #[.pointer (some ⟨6, 105, none⟩)])]).run Tryz.prog w = .ok (.bool false) w := by kernel_rfl
theorem Tryz.noAsX (v : Value) (xT : TypeId) (w : World) : (Instr.typeAssert (.iface 25 v) xT 191 true).run Tryz.prog w = .ok (.tuple #[.nilIface, .bool false]) w := run_typeAssert_lacksB Tryz.underlying191 (by kernel_rfl) (by kernel_rfl) v xT w
theorem Tryz.noUnwrapX (v : Value) (xT : TypeId) (w : World) : (Instr.typeAssert (.iface 25 v) xT 194 true).run Tryz.prog w = .ok (.tuple #[.nilIface, .bool false]) w := run_typeAssert_lacksB Tryz.underlying194 (by kernel_rfl) (by kernel_rfl) v xT w
theorem Tryz.noUnwrapsX (v : Value) (xT : TypeId) (w : World) : (Instr.typeAssert (.iface 25 v) xT 195 true).run Tryz.prog w = .ok (.tuple #[.nilIface, .bool false]) w := run_typeAssert_lacksB Tryz.underlying195 (by kernel_rfl) (by kernel_rfl) v xT w
set_option maxHeartbeats 4000000 in
theorem as_errno_at (n : Int) (t : Addr) (old : Value) (w : World) (hg : w.cell? ⟨0, 0, none⟩ = some (.iface 186 (.agg #[.pointer (some ⟨6, 49, none⟩)]))) (ht0 : w.cell? t = some old) :
    Calls Tryz.prog 47 #[.iface 25 (.int .i64 n), .iface 106 (.pointer (some t))] w fun ev w' => ev = .returned (.bool false) ∧ Below w.heap.size w w' := by
  have h6 := @run_callFunc_extern Tryz.prog 83 _ (fun args => ReflectliteValue.unpack (args.getD 0 (.tuple #[]))) Tryz.func83 (by kernel_rfl) (by kernel_rfl) (by kernel_rfl) (by kernel_rfl)
  have h7 := @run_callFunc_extern Tryz.prog 84 _ (ReflectliteValue.methodAny (ReflectliteValue.valueError "reflectlite.Value.Type" 0) (fun t _ _ _ => ReflectliteType.toType t)) Tryz.func84 (by kernel_rfl) (by kernel_rfl) (by kernel_rfl) (by kernel_rfl)
  have h8 := @run_callFunc_extern Tryz.prog 85 _ (ReflectliteValue.method (ReflectliteValue.valueError "reflectlite.Value.IsNil" 0) ReflectliteValue.isNil) Tryz.func85 (by kernel_rfl) (by kernel_rfl) (by kernel_rfl) (by kernel_rfl)
  have h27 := @run_callFunc_extern Tryz.prog 195 _ (ReflectliteType.abiMethod fun t => do pure (.int .u8 (← Rtype.kind t))) Tryz.func195 (by kernel_rfl) (by kernel_rfl) (by kernel_rfl) (by kernel_rfl)
  have h37 := @run_callFunc_extern Tryz.prog 208 _ (ReflectliteType.method ReflectliteType.elem) Tryz.func208 (by kernel_rfl) (by kernel_rfl) (by kernel_rfl) (by kernel_rfl)
  have h38 := @run_callFunc_extern Tryz.prog 209 _ (ReflectliteType.relation "Implements" ReflectliteType.implements_) Tryz.func209 (by kernel_rfl) (by kernel_rfl) (by kernel_rfl) (by kernel_rfl)
  have h10 := @run_callFunc_extern Tryz.prog 112 _ ReflectliteType.typeOf Tryz.func112 (by kernel_rfl) (by kernel_rfl) (by kernel_rfl) (by kernel_rfl)
  have h35 := @run_callFunc_extern Tryz.prog 206 _ (ReflectliteType.relation "AssignableTo" ReflectliteType.assignableTo) Tryz.func206 (by kernel_rfl) (by kernel_rfl) (by kernel_rfl) (by kernel_rfl)
  have h11 := @run_callFunc_extern Tryz.prog 113 _ (ReflectliteValue.method (ReflectliteValue.valueError "reflectlite.Value.Elem" 0) ReflectliteValue.elem) Tryz.func113 (by kernel_rfl) (by kernel_rfl) (by kernel_rfl) (by kernel_rfl)
  have h12 := @run_callFunc_extern Tryz.prog 114 _ ReflectliteValue.set Tryz.func114 (by kernel_rfl) (by kernel_rfl) (by kernel_rfl) (by kernel_rfl)
  have tO := Tryz.typeOfE
  have mA := Tryz.methodAssignableTo
  have a25 := Tryz.assignableXQ
  have f6 := Tryz.valueOfPQ
  have f7 := Tryz.typePQ
  have mK := Tryz.methodKind
  have mE := Tryz.methodElem
  have mI := Tryz.methodImplements
  have k27 := Tryz.kindPQ
  have k25 := Tryz.kindEQ
  have e27 := Tryz.elemPQ
  have i25 := Tryz.implementsEQ
  have n8 := Tryz.isNilPQ ⟨w.heap.size, 0, none⟩ t ((w.alloc (.cells #[.pointer (some t)] 106)).alloc (.cells #[.pointer (some ⟨6, 106, none⟩), .pointer (some ⟨w.heap.size, 0, none⟩), .int .u64 150] 155)) (by simp)
  have hlt : 0 < w.heap.size := by
    rcases Nat.lt_or_ge 0 w.heap.size with h | h
    · exact h
    · simp [World.cell?, Array.getElem?_eq_none h] at hg
  have hg2 : ((w.alloc (.cells #[.pointer (some t)] 106)).alloc (.cells #[.pointer (some ⟨6, 106, none⟩), .pointer (some ⟨w.heap.size, 0, none⟩), .int .u64 150] 155)).cell? ⟨0, 0, none⟩ = some (.iface 186 (.agg #[.pointer (some ⟨6, 49, none⟩)])) := by
    rw [World.cell?_alloc_lt _ _ ⟨0, 0, none⟩ (by simp <;> omega), World.cell?_alloc_lt _ _ ⟨0, 0, none⟩ hlt]; exact hg
  have htl : t.block < w.heap.size := by
    rcases Nat.lt_or_ge t.block w.heap.size with h | h
    · exact h
    · simp [World.cell?, Array.getElem?_eq_none h] at ht0
  have el := Tryz.elemVPQ ⟨w.heap.size, 0, none⟩ t (((w.alloc (.cells #[.pointer (some t)] 106)).alloc (.cells #[.pointer (some ⟨6, 106, none⟩), .pointer (some ⟨w.heap.size, 0, none⟩), .int .u64 150] 155)).alloc (.cells #[.pointer (some ⟨6, 106, none⟩), .pointer (some ⟨w.heap.size, 0, none⟩), .int .u64 150] 155)) (by rw [World.cell?_alloc_lt _ _ ⟨w.heap.size, 0, none⟩ (by simp <;> omega)]; simp)
  have nX := Tryz.noAsX
  have nU := Tryz.noUnwrapX
  have nV := Tryz.noUnwrapsX
  go_enter Tryz.func47, Tryz.ntmps47
  go_wp2
  refine wp_loop_rounds 1 ?_
  rw [rounds_succ]
  go_wp2
  go_ret
  exact ⟨rfl, by repeat (first | exact Below.refl _ _ | (refine Below.alloc ?_ (by simp <;> omega) _))⟩
set_option maxHeartbeats 1000000 in
theorem where_errno (n : Int) (w : World) (hT : ErrT w) : Calls Tryz.prog 21 #[.iface 25 (.int .i64 n)] w fun e w' => e = .returned (.int .i64 (-1)) ∧ Below w.heap.size w w' := by
  have hlt := hT.lt
  have hg := hT
  unfold ErrT at hg
  have hgA : (w.alloc (.cells #[.pointer none] 105)).cell? ⟨0, 0, none⟩ = some (.iface 186 (.agg #[.pointer (some ⟨6, 49, none⟩)])) := by
    rw [World.cell?_alloc_lt _ _ ⟨0, 0, none⟩ hlt]; exact hg
  have htA : (w.alloc (.cells #[.pointer none] 105)).cell? ⟨w.heap.size, 0, none⟩ = some (.pointer none) := by simp
  clear hT
  have HA : Hid (Below w.heap.size w (w.alloc (.cells #[.pointer none] 105))) := Lib.hid ((Below.refl _ _).alloc (Nat.le_refl _) _)
  go_enter Tryz.func21, Tryz.ntmps21
  go_wp2_with (go_at_call 47; refine (as_errno_at n _ (.pointer none) _ hgA htA).mono ?_; rintro e w1 ⟨rfl, hb1⟩; have HB1 := Lib.hid (thenB HA.out hb1); clear hb1)
  go_ret
  exact ⟨rfl, HB1.out⟩
/-- plain.where of an error that is told by its number alone. -/
theorem where_e (n : Int) (w : World) (hT : ErrT w) : Calls Tryz.prog 21 #[errV n] w fun e w' => e = .returned (.int .i64 (-1)) ∧ Below w.heap.size w w' := by
  by_cases h : n = 0
  · subst h; exact where_nil w
  · rw [errV_hit h]; exact where_errno n w hT
end Go.Proofs.YtkfpnlenmdlmjaaGreatDoor
