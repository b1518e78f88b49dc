/- errors.As at an error that is an *api.At: at the target '*api.Errno' (by one Unwrap), and at '**api.At'; api.Tell and plain.where of it. After Tell. -/
import Derived.Test.YtidgahnamdhflaaDoorMore
namespace Go.Proofs.YtidgahnamdhflaaDoor
open Go.RowKit Go.Extern.Stop Go.Stop Go.Extern
theorem Tryd.typeOfA (v : Value) (w : World) : (ReflectliteType.typeOf #[.iface 84 v]).run Tryd.prog w = .ok (.iface 121 (.agg #[.pointer (some ⟨4, 84, none⟩)])) w := by kernel_rfl
theorem Tryd.assignableAE (w : World) : (ReflectliteType.relation "AssignableTo" ReflectliteType.assignableTo #[.agg #[.pointer (some ⟨4, 84, none⟩)], .iface 121 (.agg #[.pointer (some ⟨4, 26, none⟩)])]).run Tryd.prog w = .ok (.bool false) w := by kernel_rfl
theorem Tryd.noAsA (v : Value) (xT : TypeId) (w : World) : (Instr.typeAssert (.iface 84 v) xT 126 true).run Tryd.prog w = .ok (.tuple #[.nilIface, .bool false]) w := run_typeAssert_lacksB Tryd.underlying126 (by kernel_rfl) (by kernel_rfl) v xT w
theorem Tryd.hasUnwrapA (v : Value) (xT : TypeId) (w : World) : (Instr.typeAssert (.iface 84 v) xT 129 true).run Tryd.prog w = .ok (.tuple #[.iface 84 v, .bool true]) w := run_typeAssert_hasB Tryd.underlying129 (by kernel_rfl) v xT w
theorem Tryd.methodUnwrapA (p : Addr) (w : World) : (Go.method 287 84 (.pointer (some p)) "Unwrap").run Tryd.prog w = .ok (126, .pointer (some p)) w := by kernel_rfl
theorem unwrap_any (p : Addr) (n : Int) (w : World) (hp : w.cell? p = some (.int .i64 n)) : Calls Tryd.prog 126 #[.pointer (some p)] w fun e w' => e = .returned (.iface 26 (.int .i64 n)) ∧ w' = w := by
  go_enter Tryd.func126, Tryd.ntmps126
  go_wp2
  go_ret
  exact ⟨rfl, rfl⟩

set_option maxHeartbeats 4000000 in
theorem as_unwrap (n : Int) (p t : Addr) (old : Value) (w : World) (hg : w.cell? ⟨0, 0, none⟩ = some (.iface 121 (.agg #[.pointer (some ⟨4, 46, none⟩)]))) (hp : w.cell? p = some (.int .i64 n)) (ht0 : w.cell? t = some old) (hf0 : w.frozen? t = false) :
    Calls Tryd.prog 33 #[.iface 84 (.pointer (some p)), .iface 76 (.pointer (some t))] w fun ev w' => ev = .returned (.bool true) ∧ w' = ((((w.alloc (.cells #[.pointer (some t)] 76)).alloc (.cells #[.pointer (some ⟨4, 76, none⟩), .pointer (some ⟨w.heap.size, 0, none⟩), .int .u64 150] 100)).alloc (.cells #[.pointer (some ⟨4, 76, none⟩), .pointer (some ⟨w.heap.size, 0, none⟩), .int .u64 150] 100)).alloc (.cells #[.int .i64 n] 26)).setCell t (.int .i64 n) := by
  have h6 := @run_callFunc_extern Tryd.prog 52 _ (fun args => ReflectliteValue.unpack (args.getD 0 (.tuple #[]))) Tryd.func52 (by kernel_rfl) (by kernel_rfl) (by kernel_rfl) (by kernel_rfl)
  have h7 := @run_callFunc_extern Tryd.prog 53 _ (ReflectliteValue.methodAny (ReflectliteValue.valueError "reflectlite.Value.Type" 0) (fun t _ _ _ => ReflectliteType.toType t)) Tryd.func53 (by kernel_rfl) (by kernel_rfl) (by kernel_rfl) (by kernel_rfl)
  have h8 := @run_callFunc_extern Tryd.prog 54 _ (ReflectliteValue.method (ReflectliteValue.valueError "reflectlite.Value.IsNil" 0) ReflectliteValue.isNil) Tryd.func54 (by kernel_rfl) (by kernel_rfl) (by kernel_rfl) (by kernel_rfl)
  have h27 := @run_callFunc_extern Tryd.prog 121 _ (ReflectliteType.abiMethod fun t => do pure (.int .u8 (← Rtype.kind t))) Tryd.func121 (by kernel_rfl) (by kernel_rfl) (by kernel_rfl) (by kernel_rfl)
  have h37 := @run_callFunc_extern Tryd.prog 133 _ (ReflectliteType.method ReflectliteType.elem) Tryd.func133 (by kernel_rfl) (by kernel_rfl) (by kernel_rfl) (by kernel_rfl)
  have h38 := @run_callFunc_extern Tryd.prog 134 _ (ReflectliteType.relation "Implements" ReflectliteType.implements_) Tryd.func134 (by kernel_rfl) (by kernel_rfl) (by kernel_rfl) (by kernel_rfl)
  have h10 := @run_callFunc_extern Tryd.prog 70 _ ReflectliteType.typeOf Tryd.func70 (by kernel_rfl) (by kernel_rfl) (by kernel_rfl) (by kernel_rfl)
  have h35 := @run_callFunc_extern Tryd.prog 131 _ (ReflectliteType.relation "AssignableTo" ReflectliteType.assignableTo) Tryd.func131 (by kernel_rfl) (by kernel_rfl) (by kernel_rfl) (by kernel_rfl)
  have h11 := @run_callFunc_extern Tryd.prog 71 _ (ReflectliteValue.method (ReflectliteValue.valueError "reflectlite.Value.Elem" 0) ReflectliteValue.elem) Tryd.func71 (by kernel_rfl) (by kernel_rfl) (by kernel_rfl) (by kernel_rfl)
  have h12 := @run_callFunc_extern Tryd.prog 72 _ ReflectliteValue.set Tryd.func72 (by kernel_rfl) (by kernel_rfl) (by kernel_rfl) (by kernel_rfl)
  have tO := Tryd.typeOfE
  have mA := Tryd.methodAssignableTo
  have a25 := Tryd.assignableE
  have v25 := Tryd.valueOfE
  have f6 := Tryd.valueOfP
  have f7 := Tryd.typeP
  have mK := Tryd.methodKind
  have mE := Tryd.methodElem
  have mI := Tryd.methodImplements
  have k27 := Tryd.kindP
  have k25 := Tryd.kindE
  have e27 := Tryd.elemP
  have i25 := Tryd.implementsE
  have n8 := Tryd.isNilP ⟨w.heap.size, 0, none⟩ t ((w.alloc (.cells #[.pointer (some t)] 76)).alloc (.cells #[.pointer (some ⟨4, 76, none⟩), .pointer (some ⟨w.heap.size, 0, none⟩), .int .u64 150] 100)) (by simp)
  have hlt : 0 < w.heap.size := by
    rcases Nat.lt_or_ge 0 w.heap.size with h | h
    · exact h
    · simp [World.cell?, Array.getElem?_eq_none h] at hg
  have hg2 : ((w.alloc (.cells #[.pointer (some t)] 76)).alloc (.cells #[.pointer (some ⟨4, 76, none⟩), .pointer (some ⟨w.heap.size, 0, none⟩), .int .u64 150] 100)).cell? ⟨0, 0, none⟩ = some (.iface 121 (.agg #[.pointer (some ⟨4, 46, none⟩)])) := by
    rw [World.cell?_alloc_lt _ _ ⟨0, 0, none⟩ (by simp <;> omega), World.cell?_alloc_lt _ _ ⟨0, 0, none⟩ hlt]; exact hg
  have htl : t.block < w.heap.size := by
    rcases Nat.lt_or_ge t.block w.heap.size with h | h
    · exact h
    · simp [World.cell?, Array.getElem?_eq_none h] at ht0
  have el := Tryd.elemVP ⟨w.heap.size, 0, none⟩ t (((w.alloc (.cells #[.pointer (some t)] 76)).alloc (.cells #[.pointer (some ⟨4, 76, none⟩), .pointer (some ⟨w.heap.size, 0, none⟩), .int .u64 150] 100)).alloc (.cells #[.pointer (some ⟨4, 76, none⟩), .pointer (some ⟨w.heap.size, 0, none⟩), .int .u64 150] 100)) (by rw [World.cell?_alloc_lt _ _ ⟨w.heap.size, 0, none⟩ (by simp <;> omega)]; simp)
  have st := Tryd.setE t ⟨w.heap.size + 1 + 1 + 1, 0, none⟩ n old ((((w.alloc (.cells #[.pointer (some t)] 76)).alloc (.cells #[.pointer (some ⟨4, 76, none⟩), .pointer (some ⟨w.heap.size, 0, none⟩), .int .u64 150] 100)).alloc (.cells #[.pointer (some ⟨4, 76, none⟩), .pointer (some ⟨w.heap.size, 0, none⟩), .int .u64 150] 100)).alloc (.cells #[.int .i64 n] 26))
    (by rw [World.cell?_alloc_at _ _ _ _ (by simp)]; rfl)
    (by rw [World.cell?_alloc_lt _ _ t (by simp; omega), World.cell?_alloc_lt _ _ t (by simp; omega), World.cell?_alloc_lt _ _ t (by simp; omega), World.cell?_alloc_lt _ _ t htl]; exact ht0)
    (by rw [World.frozen?_alloc_old _ _ t (by simp; omega), World.frozen?_alloc_old _ _ t (by simp; omega), World.frozen?_alloc_old _ _ t (by simp; omega), World.frozen?_alloc_old _ _ t (Nat.ne_of_lt htl)]; exact hf0)
  have hpl : p.block < w.heap.size := by
    rcases Nat.lt_or_ge p.block w.heap.size with h | h
    · exact h
    · simp [World.cell?, Array.getElem?_eq_none h] at hp
  have hp3 : (((w.alloc (.cells #[.pointer (some t)] 76)).alloc (.cells #[.pointer (some ⟨4, 76, none⟩), .pointer (some ⟨w.heap.size, 0, none⟩), .int .u64 150] 100)).alloc (.cells #[.pointer (some ⟨4, 76, none⟩), .pointer (some ⟨w.heap.size, 0, none⟩), .int .u64 150] 100)).cell? p = some (.int .i64 n) := by
    rw [World.cell?_alloc_lt _ _ p (by simp; omega), World.cell?_alloc_lt _ _ p (by simp; omega), World.cell?_alloc_lt _ _ p hpl]; exact hp
  have tOA := Tryd.typeOfA
  have aAE := Tryd.assignableAE
  have nA := Tryd.noAsA
  have hU := Tryd.hasUnwrapA
  have mU := Tryd.methodUnwrapA
  go_enter Tryd.func33, Tryd.ntmps33
  go_wp2
  refine wp_loop_rounds 2 ?_
  rw [rounds_succ]
  go_wp2_with (go_at_call 126; refine (unwrap_any p n _ hp3).mono ?_; rintro e w' ⟨rfl, rfl⟩)
  rw [rounds_succ]
  go_wp2
  go_ret
  exact ⟨rfl, rfl⟩

end Go.Proofs.YtidgahnamdhflaaDoor
