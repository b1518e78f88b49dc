/- errors.As at the target '*api.Errno', and api.Tell, by contracts: nil, and an Errno in an error. After the guide's worked example Toyas. -/
import Derived.Test.YtbmndenopgkpoaaDoorProg
import Derived.WalkKit
import Derived.LaidEql
import Derived.Stop.Asserts
import Derived.RowKitTokens
import Derived.Lib.Hide
namespace Go.Proofs.YtbmndenopgkpoaaDoor
open Go.RowKit Go.Extern.Stop Go.Stop Go.Extern

/-- errors.As(nil, target). -/
theorem as_nil (t : Value) (w : World) :
    Calls Tryd.prog 31 #[.nilIface, t] w fun e w' => e = .returned (.bool false) ∧ w' = w := by
  go_enter Tryd.func31, Tryd.ntmps31
  go_wp2
  go_ret
  exact ⟨rfl, rfl⟩

theorem Tryd.valueOfP (t : Addr) (w : World) : (ReflectliteValue.unpack (.iface 82 (.pointer (some t)))).run Tryd.prog w
    = .ok (.agg #[.pointer (some ⟨1, 82, none⟩), .pointer (some ⟨w.heap.size, 0, none⟩), .int .u64 150]) (w.alloc (.cells #[.pointer (some t)] 82)) := by kernel_rfl
theorem Tryd.typeP (a : Addr) (w : World) : (ReflectliteValue.methodAny (ReflectliteValue.valueError "reflectlite.Value.Type" 0) (fun t _ _ _ => ReflectliteType.toType t) #[.agg #[.pointer (some ⟨1, 82, none⟩), .pointer (some a), .int .u64 150]]).run Tryd.prog w
    = .ok (.iface 124 (.agg #[.pointer (some ⟨1, 82, none⟩)])) w := by kernel_rfl
theorem Tryd.methodKind (h : Value) (w : World) : (Go.method 287 124 (.agg #[h]) "Kind").run Tryd.prog w = .ok (98, h) w := by kernel_rfl
theorem Tryd.kindP (w : World) : ((ReflectliteType.abiMethod fun t => (fun a : Nat => Value.int IntKind.u8 (a : Int)) <$> Rtype.kind t) #[.pointer (some ⟨1, 82, none⟩)]).run Tryd.prog w = .ok (.int .u8 22) w := by kernel_rfl
theorem Tryd.kindE (w : World) : ((ReflectliteType.abiMethod fun t => (fun a : Nat => Value.int IntKind.u8 (a : Int)) <$> Rtype.kind t) #[.pointer (some ⟨1, 46, none⟩)]).run Tryd.prog w = .ok (.int .u8 2) w := by kernel_rfl

theorem rlm (z : Sem Value) (f : TypeId → Addr → Nat → Nat → Sem Value) (v : Value) :
    ReflectliteValue.method z f #[v] = (do match ← ReflectliteValue.parts v with | none => z | some (t, a, fl) => f t a fl (fl % 32)) := rfl
theorem Tryd.partsP (a : Addr) (w : World) : (ReflectliteValue.parts (.agg #[.pointer (some ⟨1, 82, none⟩), .pointer (some a), .int .u64 150])).run Tryd.prog w = .ok (some (82, a, 150)) w := by kernel_rfl
theorem Tryd.isNilP (a p : Addr) (W : World) (ha : W.cell? a = some (.pointer (some p))) :
    (ReflectliteValue.method (ReflectliteValue.valueError "reflectlite.Value.IsNil" 0) ReflectliteValue.isNil #[.agg #[.pointer (some ⟨1, 82, none⟩), .pointer (some a), .int .u64 150]]).run Tryd.prog W = .ok (.bool false) W := by
  rw [rlm]
  simp only [Sem.run_bind, Tryd.partsP, Result.andThen]
  simp [ReflectliteValue.isNil, loadVar, isAgg, underlying, Tryd.underlying82, ha, Result.andThen]

theorem Tryd.methodElem (h : Value) (w : World) : (Go.method 287 124 (.agg #[h]) "Elem").run Tryd.prog w = .ok (110, .agg #[h]) w := by kernel_rfl
theorem Tryd.methodImplements (h : Value) (w : World) : (Go.method 287 124 (.agg #[h]) "Implements").run Tryd.prog w = .ok (111, .agg #[h]) w := by kernel_rfl
theorem Tryd.methodAssignableTo (h : Value) (w : World) : (Go.method 287 124 (.agg #[h]) "AssignableTo").run Tryd.prog w = .ok (108, .agg #[h]) w := by kernel_rfl
theorem Tryd.elemP (w : World) : (ReflectliteType.method ReflectliteType.elem #[.agg #[.pointer (some ⟨1, 82, none⟩)]]).run Tryd.prog w = .ok (.iface 124 (.agg #[.pointer (some ⟨1, 46, none⟩)])) w := by kernel_rfl
theorem Tryd.implementsE (w : World) : (ReflectliteType.relation "Implements" ReflectliteType.implements_ #[.agg #[.pointer (some ⟨1, 46, none⟩)], .iface 124 (.agg #[.pointer (some ⟨1, 67, none⟩)])]).run Tryd.prog w = .ok (.bool true) w := by kernel_rfl
theorem Tryd.typeOfE (v : Value) (w : World) : (ReflectliteType.typeOf #[.iface 46 v]).run Tryd.prog w = .ok (.iface 124 (.agg #[.pointer (some ⟨1, 46, none⟩)])) w := by kernel_rfl
theorem Tryd.assignableE (w : World) : (ReflectliteType.relation "AssignableTo" ReflectliteType.assignableTo #[.agg #[.pointer (some ⟨1, 46, none⟩)], .iface 124 (.agg #[.pointer (some ⟨1, 46, none⟩)])]).run Tryd.prog w = .ok (.bool true) w := by kernel_rfl
theorem Tryd.valueOfE (n : Int) (w : World) : (ReflectliteValue.unpack (.iface 46 (.int .i64 n))).run Tryd.prog w
    = .ok (.agg #[.pointer (some ⟨1, 46, none⟩), .pointer (some ⟨w.heap.size, 0, none⟩), .int .u64 130]) (w.alloc (.cells #[.int .i64 n] 46)) := by kernel_rfl

theorem Tryd.elemOfP (w : World) : (Rtype.elem? 82).run Tryd.prog w = .ok (some 46) w := by kernel_rfl
theorem Tryd.mkE (p : Addr) (w : World) : (ReflectliteValue.mk 46 p ReflectliteValue.flagAddr).run Tryd.prog w = .ok (.agg #[.pointer (some ⟨1, 46, none⟩), .pointer (some p), .int .u64 386]) w := by kernel_rfl
theorem Tryd.elemVP (a p : Addr) (W : World) (ha : W.cell? a = some (.pointer (some p))) :
    (ReflectliteValue.method (ReflectliteValue.valueError "reflectlite.Value.Elem" 0) ReflectliteValue.elem #[.agg #[.pointer (some ⟨1, 82, none⟩), .pointer (some a), .int .u64 150]]).run Tryd.prog W
      = .ok (.agg #[.pointer (some ⟨1, 46, none⟩), .pointer (some p), .int .u64 386]) W := by
  rw [rlm]
  simp only [Sem.run_bind, Tryd.partsP, Result.andThen]
  simp [ReflectliteValue.elem, loadVar, isAgg, underlying, Tryd.underlying82, ha, Result.andThen, Tryd.elemOfP, Tryd.mkE]
theorem rls (v x : Value) : ReflectliteValue.set #[v, x] = (do
    let (some (dst, a, fl), some (src, b, _)) := (← ReflectliteValue.parts v, ← ReflectliteValue.parts x)
      | unsupported (.noEntry "extern/(internal/reflectlite.Value).Set.zeroValue")
    if fl / ReflectliteValue.flagAddr % 2 == 0 then unsupported (.noEntry "extern/(internal/reflectlite.Value).Set.unaddressable")
    let val ← loadVar src b
    if ← Rtype.directlyAssignable dst src then storeVar dst a val
    else if ← Rtype.implements dst src then
      if (← Rtype.kind src) == 20 then
        match val with
        | .nilIface => unsupported (.noEntry "extern/reflectlite: a nil value of one interface type handed on as a value of another")
        | _ => storeVar dst a val
      else storeVar dst a (.iface src val)
    else panicString ("reflectlite.Set: value of type " ++ (← Rtype.spelt src) ++ " is not assignable to type " ++ (← Rtype.spelt dst))
    pure (.tuple #[])) := rfl
theorem Tryd.partsEa (a : Addr) (w : World) : (ReflectliteValue.parts (.agg #[.pointer (some ⟨1, 46, none⟩), .pointer (some a), .int .u64 386])).run Tryd.prog w = .ok (some (46, a, 386)) w := by kernel_rfl
theorem Tryd.partsE (a : Addr) (w : World) : (ReflectliteValue.parts (.agg #[.pointer (some ⟨1, 46, none⟩), .pointer (some a), .int .u64 130])).run Tryd.prog w = .ok (some (46, a, 130)) w := by kernel_rfl
theorem Tryd.directE (w : World) : (Rtype.directlyAssignable 46 46).run Tryd.prog w = .ok true w := by kernel_rfl
theorem Tryd.setE (ta b : Addr) (n : Int) (old : Value) (W : World) (hb : W.cell? b = some (.int .i64 n)) (ht : W.cell? ta = some old) (hf : W.frozen? ta = false) :
    (ReflectliteValue.set #[.agg #[.pointer (some ⟨1, 46, none⟩), .pointer (some ta), .int .u64 386], .agg #[.pointer (some ⟨1, 46, none⟩), .pointer (some b), .int .u64 130]]).run Tryd.prog W
      = .ok (.tuple #[]) (W.setCell ta (.int .i64 n)) := by
  rw [rls]
  simp only [Sem.run_bind, Tryd.partsEa, Tryd.partsE, Result.andThen]
  simp [ReflectliteValue.flagAddr, loadVar, isAgg, underlying, Tryd.underlying46, hb, Result.andThen, Tryd.directE, storeVar, Value.cells, storeCells, Addr.add]
  rw [run_store Tryd.prog W ta _ _ (by rfl)]
  simp [ht, hf]

set_option maxHeartbeats 4000000 in
theorem as_hit (n : Int) (t : Addr) (old : Value) (w : World) (hg : w.cell? ⟨0, 0, none⟩ = some (.iface 124 (.agg #[.pointer (some ⟨1, 67, none⟩)]))) (ht0 : w.cell? t = some old) (hf0 : w.frozen? t = false) :
    Calls Tryd.prog 31 #[.iface 46 (.int .i64 n), .iface 82 (.pointer (some t))] w fun ev w' => ev = .returned (.bool true) ∧ w' = ((((w.alloc (.cells #[.pointer (some t)] 82)).alloc (.cells #[.pointer (some ⟨1, 82, none⟩), .pointer (some ⟨w.heap.size, 0, none⟩), .int .u64 150] 95)).alloc (.cells #[.pointer (some ⟨1, 82, none⟩), .pointer (some ⟨w.heap.size, 0, none⟩), .int .u64 150] 95)).alloc (.cells #[.int .i64 n] 46)).setCell t (.int .i64 n) := by
  have h6 := @run_callFunc_extern Tryd.prog 41 _ (fun args => ReflectliteValue.unpack (args.getD 0 (.tuple #[]))) Tryd.func41 (by kernel_rfl) (by kernel_rfl) (by kernel_rfl) (by kernel_rfl)
  have h7 := @run_callFunc_extern Tryd.prog 42 _ (ReflectliteValue.methodAny (ReflectliteValue.valueError "reflectlite.Value.Type" 0) (fun t _ _ _ => ReflectliteType.toType t)) Tryd.func42 (by kernel_rfl) (by kernel_rfl) (by kernel_rfl) (by kernel_rfl)
  have h8 := @run_callFunc_extern Tryd.prog 43 _ (ReflectliteValue.method (ReflectliteValue.valueError "reflectlite.Value.IsNil" 0) ReflectliteValue.isNil) Tryd.func43 (by kernel_rfl) (by kernel_rfl) (by kernel_rfl) (by kernel_rfl)
  have h27 := @run_callFunc_extern Tryd.prog 98 _ (ReflectliteType.abiMethod fun t => do pure (.int .u8 (← Rtype.kind t))) Tryd.func98 (by kernel_rfl) (by kernel_rfl) (by kernel_rfl) (by kernel_rfl)
  have h37 := @run_callFunc_extern Tryd.prog 110 _ (ReflectliteType.method ReflectliteType.elem) Tryd.func110 (by kernel_rfl) (by kernel_rfl) (by kernel_rfl) (by kernel_rfl)
  have h38 := @run_callFunc_extern Tryd.prog 111 _ (ReflectliteType.relation "Implements" ReflectliteType.implements_) Tryd.func111 (by kernel_rfl) (by kernel_rfl) (by kernel_rfl) (by kernel_rfl)
  have h10 := @run_callFunc_extern Tryd.prog 60 _ ReflectliteType.typeOf Tryd.func60 (by kernel_rfl) (by kernel_rfl) (by kernel_rfl) (by kernel_rfl)
  have h35 := @run_callFunc_extern Tryd.prog 108 _ (ReflectliteType.relation "AssignableTo" ReflectliteType.assignableTo) Tryd.func108 (by kernel_rfl) (by kernel_rfl) (by kernel_rfl) (by kernel_rfl)
  have h11 := @run_callFunc_extern Tryd.prog 61 _ (ReflectliteValue.method (ReflectliteValue.valueError "reflectlite.Value.Elem" 0) ReflectliteValue.elem) Tryd.func61 (by kernel_rfl) (by kernel_rfl) (by kernel_rfl) (by kernel_rfl)
  have h12 := @run_callFunc_extern Tryd.prog 62 _ ReflectliteValue.set Tryd.func62 (by kernel_rfl) (by kernel_rfl) (by kernel_rfl) (by kernel_rfl)
  have tO := Tryd.typeOfE
  have mA := Tryd.methodAssignableTo
  have a25 := Tryd.assignableE
  have v25 := Tryd.valueOfE
  have f6 := Tryd.valueOfP
  have f7 := Tryd.typeP
  have mK := Tryd.methodKind
  have mE := Tryd.methodElem
  have mI := Tryd.methodImplements
  have k27 := Tryd.kindP
  have k25 := Tryd.kindE
  have e27 := Tryd.elemP
  have i25 := Tryd.implementsE
  have n8 := Tryd.isNilP ⟨w.heap.size, 0, none⟩ t ((w.alloc (.cells #[.pointer (some t)] 82)).alloc (.cells #[.pointer (some ⟨1, 82, none⟩), .pointer (some ⟨w.heap.size, 0, none⟩), .int .u64 150] 95)) (by simp)
  have hlt : 0 < w.heap.size := by
    rcases Nat.lt_or_ge 0 w.heap.size with h | h
    · exact h
    · simp [World.cell?, Array.getElem?_eq_none h] at hg
  have hg2 : ((w.alloc (.cells #[.pointer (some t)] 82)).alloc (.cells #[.pointer (some ⟨1, 82, none⟩), .pointer (some ⟨w.heap.size, 0, none⟩), .int .u64 150] 95)).cell? ⟨0, 0, none⟩ = some (.iface 124 (.agg #[.pointer (some ⟨1, 67, none⟩)])) := by
    rw [World.cell?_alloc_lt _ _ ⟨0, 0, none⟩ (by simp <;> omega), World.cell?_alloc_lt _ _ ⟨0, 0, none⟩ hlt]; exact hg
  have htl : t.block < w.heap.size := by
    rcases Nat.lt_or_ge t.block w.heap.size with h | h
    · exact h
    · simp [World.cell?, Array.getElem?_eq_none h] at ht0
  have el := Tryd.elemVP ⟨w.heap.size, 0, none⟩ t (((w.alloc (.cells #[.pointer (some t)] 82)).alloc (.cells #[.pointer (some ⟨1, 82, none⟩), .pointer (some ⟨w.heap.size, 0, none⟩), .int .u64 150] 95)).alloc (.cells #[.pointer (some ⟨1, 82, none⟩), .pointer (some ⟨w.heap.size, 0, none⟩), .int .u64 150] 95)) (by rw [World.cell?_alloc_lt _ _ ⟨w.heap.size, 0, none⟩ (by simp <;> omega)]; simp)
  have st := Tryd.setE t ⟨w.heap.size + 1 + 1 + 1, 0, none⟩ n old ((((w.alloc (.cells #[.pointer (some t)] 82)).alloc (.cells #[.pointer (some ⟨1, 82, none⟩), .pointer (some ⟨w.heap.size, 0, none⟩), .int .u64 150] 95)).alloc (.cells #[.pointer (some ⟨1, 82, none⟩), .pointer (some ⟨w.heap.size, 0, none⟩), .int .u64 150] 95)).alloc (.cells #[.int .i64 n] 46))
    (by rw [World.cell?_alloc_at _ _ _ _ (by simp)]; rfl)
    (by rw [World.cell?_alloc_lt _ _ t (by simp; omega), World.cell?_alloc_lt _ _ t (by simp; omega), World.cell?_alloc_lt _ _ t (by simp; omega), World.cell?_alloc_lt _ _ t htl]; exact ht0)
    (by rw [World.frozen?_alloc_old _ _ t (by simp; omega), World.frozen?_alloc_old _ _ t (by simp; omega), World.frozen?_alloc_old _ _ t (by simp; omega), World.frozen?_alloc_old _ _ t (Nat.ne_of_lt htl)]; exact hf0)
  go_enter Tryd.func31, Tryd.ntmps31
  go_wp2
  refine wp_loop_rounds 1 ?_
  rw [rounds_succ]
  go_wp2
  go_ret
  exact ⟨rfl, rfl⟩

/-- What the variable errors.errorType must hold. -/
def ErrT (w : World) : Prop := w.cell? ⟨0, 0, none⟩ = some (.iface 124 (.agg #[.pointer (some ⟨1, 67, none⟩)]))
theorem ErrT.lt {w : World} (h : ErrT w) : 0 < w.heap.size := by
  rcases Nat.lt_or_ge 0 w.heap.size with h1 | h1
  · exact h1
  · simp [ErrT, World.cell?, Array.getElem?_eq_none h1] at h
theorem ErrT.below {B : Nat} {w w' : World} (h : ErrT w) (hb : Below B w w') (hB : 0 < B) : ErrT w' := (hb.cell (p := ⟨0, 0, none⟩) hB).trans h
/-- An error that is nil (code 0), or an Errno. -/
def errV (n : Int) : Value := if n = 0 then .nilIface else .iface 46 (.int .i64 n)
theorem errV_nil : errV 0 = .nilIface := rfl
theorem errV_hit {n : Int} (h : n ≠ 0) : errV n = .iface 46 (.int .i64 n) := if_neg h

theorem tell_nil (w : World) : Calls Tryd.prog 19 #[.nilIface] w fun e w' => e = .returned (.int .i64 0) ∧ Below w.heap.size w w' := by
  go_enter Tryd.func19, Tryd.ntmps19
  go_wp2
  go_ret
  exact ⟨rfl, by repeat (first | exact Below.refl _ _ | (refine Below.alloc ?_ (by simp <;> omega) _))⟩
set_option maxHeartbeats 1000000 in
theorem tell_hit (n : Int) (w : World) (hT : ErrT w) : Calls Tryd.prog 19 #[.iface 46 (.int .i64 n)] w fun e w' => e = .returned (.int .i64 n) ∧ Below w.heap.size w w' := by
  have hlt := hT.lt
  have hg := hT
  unfold ErrT at hg
  have hgA : (w.alloc (.cells #[.int .i64 0] 46)).cell? ⟨0, 0, none⟩ = some (.iface 124 (.agg #[.pointer (some ⟨1, 67, none⟩)])) := by
    rw [World.cell?_alloc_lt _ _ ⟨0, 0, none⟩ hlt]; exact hg
  have htA : (w.alloc (.cells #[.int .i64 0] 46)).cell? ⟨w.heap.size, 0, none⟩ = some (.int .i64 0) := by simp
  have hfA : (w.alloc (.cells #[.int .i64 0] 46)).frozen? ⟨w.heap.size, 0, none⟩ = false := by simp
  clear hT
  go_enter Tryd.func19, Tryd.ntmps19
  go_wp2_with (go_at_call 31; refine (as_hit n _ (.int .i64 0) _ hgA htA hfA).mono ?_; rintro e w' ⟨rfl, rfl⟩)
  go_ret
  refine ⟨rfl, ?_⟩
  repeat (first | exact Below.refl _ _ | (refine Below.setCell ?_ (by simp) _) | (refine Below.alloc ?_ (by simp <;> omega) _))
/-- Tell of nil or an Errno is its code. -/
theorem tell_any (n : Int) (w : World) (hT : ErrT w) : Calls Tryd.prog 19 #[errV n] w fun e w' => e = .returned (.int .i64 n) ∧ Below w.heap.size w w' := by
  by_cases h : n = 0
  · subst h; exact tell_nil w
  · rw [errV_hit h]; exact tell_hit n w hT
theorem ErrT.alloc {w : World} (h : ErrT w) (o : Obj) : ErrT (w.alloc o) := h.below (Below.alloc (Below.refl _ _) (Nat.le_refl _) _) h.lt
theorem ErrT.drew {w : World} (h : ErrT w) : ErrT w.drew := h
theorem ErrT.call {w w' : World} (h : ErrT w) (hb : Below w.heap.size w w') : ErrT w' := h.below hb h.lt
/-- What a contract's 'Below' says of the cells. -/
theorem bcell {W w1 : World} (hb : Below W.heap.size W w1) : (∀ b o, b < W.heap.size → w1.cell? ⟨b, o, none⟩ = W.cell? ⟨b, o, none⟩) ∧ (∀ b o, b < W.heap.size → w1.frozen? ⟨b, o, none⟩ = W.frozen? ⟨b, o, none⟩) :=
  ⟨fun b o h => hb.cell (p := ⟨b, o, none⟩) h, fun b o h => hb.frozen (p := ⟨b, o, none⟩) h⟩
theorem ErrT.setCell {w : World} (h : ErrT w) {p : Addr} (hp : 0 < p.block) (u : Value) : ErrT (w.setCell p u) :=
  (World.cell?_of_block (Below.heap_setCell w p u 0 (Nat.ne_of_lt hp))).trans h
theorem carry {W w1 : World} (hb : Below W.heap.size W w1) (B : Nat) (h : B < W.heap.size) : (∀ o, w1.cell? ⟨B, o, none⟩ = W.cell? ⟨B, o, none⟩) ∧ (∀ o, w1.frozen? ⟨B, o, none⟩ = W.frozen? ⟨B, o, none⟩) :=
  ⟨fun o => hb.cell (p := ⟨B, o, none⟩) h, fun o => hb.frozen (p := ⟨B, o, none⟩) h⟩
theorem offA {w w2 : World} {o : Obj} (h : Below (w.alloc o).heap.size (w.alloc o) w2) : Below w.heap.size w w2 :=
  (Below.alloc (Below.refl _ _) (Nat.le_refl _) _).trans (h.mono (by simp))
theorem offD {w w2 : World} (h : Below w.drew.heap.size w.drew w2) : Below w.heap.size w w2 :=
  (Below.drew (Below.refl _ _)).trans (h.mono (Nat.le_refl _))
/-- One call behind another. -/
theorem thenB {w w1 w2 : World} (h : Below w.heap.size w w1) (h2 : Below w1.heap.size w1 w2) : Below w.heap.size w w2 := h.trans (h2.mono h.size)
theorem ret1 {k : IntKind} {a b : Int} (h : a = b) : Ending.returned (.int k a) = .returned (.int k b) := by rw [h]
theorem retB {a b : Bool} (h : a = b) : Ending.returned (.bool a) = .returned (.bool b) := by rw [h]
theorem ret2 {k : IntKind} {a b : Int} {v v' : Value} (h : a = b) (h' : v = v') : Ending.returned (.tuple #[.int k a, v]) = .returned (.tuple #[.int k b, v']) := by rw [h, h']
end Go.Proofs.YtbmndenopgkpoaaDoor
