/- errors.As at an error that is an *api.At: at the target '*api.Errno' (by one Unwrap), and at '**api.At'; api.Tell and plain.where of it. After Tell. -/
import Derived.Test.YthlpknmfpbhlhaaDoorMore
namespace Go.Proofs.YthlpknmfpbhlhaaDoor
open Go.RowKit Go.Extern.Stop Go.Stop Go.Extern
theorem Tryd.typeOfA (v : Value) (w : World) : (ReflectliteType.typeOf #[.iface 46 v]).run Tryd.prog w = .ok (.iface 73 (.agg #[.pointer (some ⟨2, 46, none⟩)])) w := by kernel_rfl
theorem Tryd.assignableAE (w : World) : (ReflectliteType.relation "AssignableTo" ReflectliteType.assignableTo #[.agg #[.pointer (some ⟨2, 46, none⟩)], .iface 73 (.agg #[.pointer (some ⟨2, 23, none⟩)])]).run Tryd.prog w = .ok (.bool false) w := by kernel_rfl
theorem Tryd.noAsA (v : Value) (xT : TypeId) (w : World) : (Instr.typeAssert (.iface 46 v) xT 78 true).run Tryd.prog w = .ok (.tuple #[.nilIface, .bool false]) w := run_typeAssert_lacksB Tryd.underlying78 (by kernel_rfl) (by kernel_rfl) v xT w
theorem Tryd.hasUnwrapA (v : Value) (xT : TypeId) (w : World) : (Instr.typeAssert (.iface 46 v) xT 81 true).run Tryd.prog w = .ok (.tuple #[.iface 46 v, .bool true]) w := run_typeAssert_hasB Tryd.underlying81 (by kernel_rfl) v xT w
theorem Tryd.methodUnwrapA (p : Addr) (w : World) : (Go.method 215 46 (.pointer (some p)) "Unwrap").run Tryd.prog w = .ok (57, .pointer (some p)) w := by kernel_rfl
theorem unwrap_any (p : Addr) (n : Int) (w : World) (hp : w.cell? p = some (.int .i64 n)) : Calls Tryd.prog 57 #[.pointer (some p)] w fun e w' => e = .returned (.iface 23 (.int .i64 n)) ∧ w' = w := by
  go_enter Tryd.func57, Tryd.ntmps57
  go_wp2
  go_ret
  exact ⟨rfl, rfl⟩

set_option maxHeartbeats 4000000 in
theorem as_unwrap (n : Int) (p t : Addr) (old : Value) (w : World) (hg : w.cell? ⟨0, 0, none⟩ = some (.iface 73 (.agg #[.pointer (some ⟨2, 35, none⟩)]))) (hp : w.cell? p = some (.int .i64 n)) (ht0 : w.cell? t = some old) (hf0 : w.frozen? t = false) :
    Calls Tryd.prog 21 #[.iface 46 (.pointer (some p)), .iface 51 (.pointer (some t))] w fun ev w' => ev = .returned (.bool true) ∧ w' = ((((w.alloc (.cells #[.pointer (some t)] 51)).alloc (.cells #[.pointer (some ⟨2, 51, none⟩), .pointer (some ⟨w.heap.size, 0, none⟩), .int .u64 150] 60)).alloc (.cells #[.pointer (some ⟨2, 51, none⟩), .pointer (some ⟨w.heap.size, 0, none⟩), .int .u64 150] 60)).alloc (.cells #[.int .i64 n] 23)).setCell t (.int .i64 n) := by
  have h6 := @run_callFunc_extern Tryd.prog 26 _ (fun args => ReflectliteValue.unpack (args.getD 0 (.tuple #[]))) Tryd.func26 (by kernel_rfl) (by kernel_rfl) (by kernel_rfl) (by kernel_rfl)
  have h7 := @run_callFunc_extern Tryd.prog 27 _ (ReflectliteValue.methodAny (ReflectliteValue.valueError "reflectlite.Value.Type" 0) (fun t _ _ _ => ReflectliteType.toType t)) Tryd.func27 (by kernel_rfl) (by kernel_rfl) (by kernel_rfl) (by kernel_rfl)
  have h8 := @run_callFunc_extern Tryd.prog 28 _ (ReflectliteValue.method (ReflectliteValue.valueError "reflectlite.Value.IsNil" 0) ReflectliteValue.isNil) Tryd.func28 (by kernel_rfl) (by kernel_rfl) (by kernel_rfl) (by kernel_rfl)
  have h27 := @run_callFunc_extern Tryd.prog 52 _ (ReflectliteType.abiMethod fun t => do pure (.int .u8 (← Rtype.kind t))) Tryd.func52 (by kernel_rfl) (by kernel_rfl) (by kernel_rfl) (by kernel_rfl)
  have h37 := @run_callFunc_extern Tryd.prog 64 _ (ReflectliteType.method ReflectliteType.elem) Tryd.func64 (by kernel_rfl) (by kernel_rfl) (by kernel_rfl) (by kernel_rfl)
  have h38 := @run_callFunc_extern Tryd.prog 65 _ (ReflectliteType.relation "Implements" ReflectliteType.implements_) Tryd.func65 (by kernel_rfl) (by kernel_rfl) (by kernel_rfl) (by kernel_rfl)
  have h10 := @run_callFunc_extern Tryd.prog 33 _ ReflectliteType.typeOf Tryd.func33 (by kernel_rfl) (by kernel_rfl) (by kernel_rfl) (by kernel_rfl)
  have h35 := @run_callFunc_extern Tryd.prog 62 _ (ReflectliteType.relation "AssignableTo" ReflectliteType.assignableTo) Tryd.func62 (by kernel_rfl) (by kernel_rfl) (by kernel_rfl) (by kernel_rfl)
  have h11 := @run_callFunc_extern Tryd.prog 34 _ (ReflectliteValue.method (ReflectliteValue.valueError "reflectlite.Value.Elem" 0) ReflectliteValue.elem) Tryd.func34 (by kernel_rfl) (by kernel_rfl) (by kernel_rfl) (by kernel_rfl)
  have h12 := @run_callFunc_extern Tryd.prog 35 _ ReflectliteValue.set Tryd.func35 (by kernel_rfl) (by kernel_rfl) (by kernel_rfl) (by kernel_rfl)
  have tO := Tryd.typeOfE
  have mA := Tryd.methodAssignableTo
  have a25 := Tryd.assignableE
  have v25 := Tryd.valueOfE
  have f6 := Tryd.valueOfP
  have f7 := Tryd.typeP
  have mK := Tryd.methodKind
  have mE := Tryd.methodElem
  have mI := Tryd.methodImplements
  have k27 := Tryd.kindP
  have k25 := Tryd.kindE
  have e27 := Tryd.elemP
  have i25 := Tryd.implementsE
  have n8 := Tryd.isNilP ⟨w.heap.size, 0, none⟩ t ((w.alloc (.cells #[.pointer (some t)] 51)).alloc (.cells #[.pointer (some ⟨2, 51, none⟩), .pointer (some ⟨w.heap.size, 0, none⟩), .int .u64 150] 60)) (by simp)
  have hlt : 0 < w.heap.size := by
    rcases Nat.lt_or_ge 0 w.heap.size with h | h
    · exact h
    · simp [World.cell?, Array.getElem?_eq_none h] at hg
  have hg2 : ((w.alloc (.cells #[.pointer (some t)] 51)).alloc (.cells #[.pointer (some ⟨2, 51, none⟩), .pointer (some ⟨w.heap.size, 0, none⟩), .int .u64 150] 60)).cell? ⟨0, 0, none⟩ = some (.iface 73 (.agg #[.pointer (some ⟨2, 35, none⟩)])) := by
    rw [World.cell?_alloc_lt _ _ ⟨0, 0, none⟩ (by simp <;> omega), World.cell?_alloc_lt _ _ ⟨0, 0, none⟩ hlt]; exact hg
  have htl : t.block < w.heap.size := by
    rcases Nat.lt_or_ge t.block w.heap.size with h | h
    · exact h
    · simp [World.cell?, Array.getElem?_eq_none h] at ht0
  have el := Tryd.elemVP ⟨w.heap.size, 0, none⟩ t (((w.alloc (.cells #[.pointer (some t)] 51)).alloc (.cells #[.pointer (some ⟨2, 51, none⟩), .pointer (some ⟨w.heap.size, 0, none⟩), .int .u64 150] 60)).alloc (.cells #[.pointer (some ⟨2, 51, none⟩), .pointer (some ⟨w.heap.size, 0, none⟩), .int .u64 150] 60)) (by rw [World.cell?_alloc_lt _ _ ⟨w.heap.size, 0, none⟩ (by simp <;> omega)]; simp)
  have st := Tryd.setE t ⟨w.heap.size + 1 + 1 + 1, 0, none⟩ n old ((((w.alloc (.cells #[.pointer (some t)] 51)).alloc (.cells #[.pointer (some ⟨2, 51, none⟩), .pointer (some ⟨w.heap.size, 0, none⟩), .int .u64 150] 60)).alloc (.cells #[.pointer (some ⟨2, 51, none⟩), .pointer (some ⟨w.heap.size, 0, none⟩), .int .u64 150] 60)).alloc (.cells #[.int .i64 n] 23))
    (by rw [World.cell?_alloc_at _ _ _ _ (by simp)]; rfl)
    (by rw [World.cell?_alloc_lt _ _ t (by simp; omega), World.cell?_alloc_lt _ _ t (by simp; omega), World.cell?_alloc_lt _ _ t (by simp; omega), World.cell?_alloc_lt _ _ t htl]; exact ht0)
    (by rw [World.frozen?_alloc_old _ _ t (by simp; omega), World.frozen?_alloc_old _ _ t (by simp; omega), World.frozen?_alloc_old _ _ t (by simp; omega), World.frozen?_alloc_old _ _ t (Nat.ne_of_lt htl)]; exact hf0)
  have hpl : p.block < w.heap.size := by
    rcases Nat.lt_or_ge p.block w.heap.size with h | h
    · exact h
    · simp [World.cell?, Array.getElem?_eq_none h] at hp
  have hp3 : (((w.alloc (.cells #[.pointer (some t)] 51)).alloc (.cells #[.pointer (some ⟨2, 51, none⟩), .pointer (some ⟨w.heap.size, 0, none⟩), .int .u64 150] 60)).alloc (.cells #[.pointer (some ⟨2, 51, none⟩), .pointer (some ⟨w.heap.size, 0, none⟩), .int .u64 150] 60)).cell? p = some (.int .i64 n) := by
    rw [World.cell?_alloc_lt _ _ p (by simp; omega), World.cell?_alloc_lt _ _ p (by simp; omega), World.cell?_alloc_lt _ _ p hpl]; exact hp
  have tOA := Tryd.typeOfA
  have aAE := Tryd.assignableAE
  have nA := Tryd.noAsA
  have hU := Tryd.hasUnwrapA
  have mU := Tryd.methodUnwrapA
  go_enter Tryd.func21, Tryd.ntmps21
  go_wp2
  refine wp_loop_rounds 2 ?_
  rw [rounds_succ]
  go_wp2_with (go_at_call 57; refine (unwrap_any p n _ hp3).mono ?_; rintro e w' ⟨rfl, rfl⟩)
  rw [rounds_succ]
  go_wp2
  go_ret
  exact ⟨rfl, rfl⟩

end Go.Proofs.YthlpknmfpbhlhaaDoor
