/- Plain: periods as texts (no program in sight). Contracts of the shelf, laid at this program: printed by lay.py out of the text that the kit's own command hands to Lean. The units of a period, as the program reads them. -/
import Derived.Lib.ItoaLen
import Derived.Shelf.Lay
import Derived.Shelf.SlGeneric
import Derived.Shelf.Strings.BuilderK
import Derived.Shelf.Small.Strs
import Derived.Test.YtkfpnlenmdlmjaaGreatDoorProg
import Derived.Test.YtkfpnlenmdlmjaaGreatDoorZQTail
import Derived.Test.YtkfpnlenmdlmjaaGreatDoorZTell
import Derived.Test.YtkfpnlenmdlmjaaGreatDoorZG2
import Derived.Test.YtkfpnlenmdlmjaaGreatDoorZScq
namespace Per
open Go
/-- The five numbers of a period. -/
abbrev F := Nat → Int
def five (a b c d e : Int) : F := fun i => match i with | 0 => a | 1 => b | 2 => c | 3 => d | _ => e
def bigB (v : F) (k : Nat) : Bool := (List.range k).any fun i => decide (v i < -1000000000000) || decide (1000000000000 < v i)
def upB (v : F) (k : Nat) : Bool := (List.range k).any fun i => decide (0 < v i)
def dnB (v : F) (k : Nat) : Bool := (List.range k).any fun i => decide (v i < 0)
theorem upB_succ (v : F) (k : Nat) : upB v (k + 1) = (upB v k || decide (0 < v k)) := by simp [upB, List.range_succ]
theorem dnB_succ (v : F) (k : Nat) : dnB v (k + 1) = (dnB v k || decide (v k < 0)) := by simp [dnB, List.range_succ]
theorem bigB_succ (v : F) (k : Nat) : bigB v (k + 1) = (bigB v k || (decide (v k < -1000000000000) || decide (1000000000000 < v k))) := by simp [bigB, List.range_succ]
theorem bigB_of {v : F} {k n : Nat} (h : k < n) (hb : v k < -1000000000000 ∨ 1000000000000 < v k) : bigB v n = true := by
  unfold bigB; rw [List.any_eq_true]; exact ⟨k, List.mem_range.2 h, by simpa using hb⟩
theorem bigB_no {v : F} {n : Nat} (h : bigB v n = false) {k : Nat} (hk : k < n) : -1000000000000 ≤ v k ∧ v k ≤ 1000000000000 := by
  unfold bigB at h; rw [List.any_eq_false] at h
  have := h k (List.mem_range.2 hk)
  simp at this; omega
theorem upB_no {v : F} {n : Nat} (h : upB v n = false) {k : Nat} (hk : k < n) : v k ≤ 0 := by
  unfold upB at h; rw [List.any_eq_false] at h
  have := h k (List.mem_range.2 hk)
  simp at this; omega
theorem dnB_no {v : F} {n : Nat} (h : dnB v n = false) {k : Nat} (hk : k < n) : 0 ≤ v k := by
  unfold dnB at h; rw [List.any_eq_false] at h
  have := h k (List.mem_range.2 hk)
  simp at this; omega
/-- A number with its unit, if it is more than none. -/
def partL (n : Int) (u : UInt8) : List UInt8 := if 0 < n then Lib.itoa n ++ [u] else []
theorem partL_yes {n : Int} {u : UInt8} (h : 0 < n) : partL n u = Lib.itoa n ++ [u] := if_pos h
theorem partL_no {n : Int} {u : UInt8} (h : ¬ 0 < n) : partL n u = [] := if_neg h
theorem partL_len {n : Int} {u : UInt8} (h : n ≤ 9223372036854775807) : (partL n u).length ≤ 22 := by
  unfold partL
  split
  · have := Lib.itoa_length_le n (by omega) h
    rw [List.length_append]; simp; omega
  · simp
def tailL (s : Int) : List UInt8 := if 0 < s then [84] ++ partL (s / 3600) 72 ++ partL (s / 60 % 60) 77 ++ partL (s % 60) 83 else []
def headL (v : F) : List UInt8 := [80] ++ partL (v 0) 89 ++ partL (v 1) 77 ++ partL (v 2) 87 ++ partL (v 3) 68
def neg (v : F) : F := fun i => - v i
def textE (v : F) : Int := if bigB v 5 = true then 4 else if upB v 5 = true ∧ dnB v 5 = true then 1 else 0
def textS (v : F) : List UInt8 :=
  if dnB v 5 = true then [45] ++ headL (neg v) ++ tailL (- v 4) else if upB v 5 = true then headL v ++ tailL (v 4) else [80, 84, 48, 83]
def textL (v : F) : List UInt8 := if textE v = 0 then textS v else []
theorem textE_big {v : F} (h : bigB v 5 = true) : textE v = 4 ∧ textL v = [] := by have e : textE v = 4 := if_pos h; exact ⟨e, if_neg (by rw [e]; decide)⟩
theorem textE_un {v : F} (h : bigB v 5 = false) (h1 : upB v 5 = true) (h2 : dnB v 5 = true) : textE v = 1 ∧ textL v = [] := by
  have e : textE v = 1 := by unfold textE; rw [if_neg (by simp [h]), if_pos ⟨h1, h2⟩]
  exact ⟨e, if_neg (by rw [e]; decide)⟩
theorem textE_ok {v : F} (h : bigB v 5 = false) (h1 : ¬ (upB v 5 = true ∧ dnB v 5 = true)) : textE v = 0 ∧ textL v = textS v := by
  have e : textE v = 0 := by unfold textE; rw [if_neg (by simp [h]), if_neg h1]
  exact ⟨e, if_pos e⟩
theorem textS_dn {v : F} (h : dnB v 5 = true) : textS v = [45] ++ headL (neg v) ++ tailL (- v 4) := if_pos h
theorem textS_up {v : F} (h : dnB v 5 = false) (h1 : upB v 5 = true) : textS v = headL v ++ tailL (v 4) := by unfold textS; rw [if_neg (by simp [h]), if_pos h1]
theorem textS_zero {v : F} (h : dnB v 5 = false) (h1 : upB v 5 = false) : textS v = [80, 84, 48, 83] := by unfold textS; rw [if_neg (by simp [h]), if_neg (by simp [h1])]
theorem tailL_no {s : Int} (h : ¬ 0 < s) : tailL s = [] := if_neg h
theorem tailL_yes {s : Int} (h : 0 < s) : tailL s = [84] ++ partL (s / 3600) 72 ++ partL (s / 60 % 60) 77 ++ partL (s % 60) 83 := if_pos h
end Per
namespace Go.Proofs.YtkfpnlenmdlmjaaGreatDoor
open Go.Shelf
def layWS_ren : Go.Shelf.Ren := ⟨fun | 166 => 74 | 240 => 105 | 276 => 127 | n => n, fun | 70 => 135 | 9 => 9 | 3 => 3 | 75 => 49 | 0 => 0 | 72 => 138 | 37 => 136 | 4 => 4 | 164 => 152 | 80 => 142 | 5 => 5 | 20 => 20 | n => n, fun | n => n⟩
theorem layWS : Go.Proofs.Lays.n166 Tryz.prog layWS_ren := {
  mixed := (by kernel_rfl),
  f166 := Tryz.func74.trans (congrArg some (by kernel_rfl)),
  f240 := Tryz.func105.trans (congrArg some (by kernel_rfl)),
  f276 := Tryz.func127.trans (congrArg some (by kernel_rfl)),
  t0 := Tryz.underlying0,
  a0 := Tryz.isAgg0,
  z0 := Tryz.sizeOf0,
  v0 := Tryz.zeroValue0,
  t3 := Tryz.underlying3,
  a3 := Tryz.isAgg3,
  z3 := Tryz.sizeOf3,
  v3 := Tryz.zeroValue3,
  t4 := Tryz.underlying4,
  a4 := Tryz.isAgg4,
  z4 := Tryz.sizeOf4,
  v4 := Tryz.zeroValue4,
  t9 := Tryz.underlying9,
  a9 := Tryz.isAgg9,
  z9 := Tryz.sizeOf9,
  v9 := Tryz.zeroValue9,
  t20 := Tryz.underlying20,
  a20 := Tryz.isAgg20,
  z20 := Tryz.sizeOf20,
  v20 := Tryz.zeroValue20,
  t37 := Tryz.underlying136,
  a37 := Tryz.isAgg136,
  z37 := Tryz.sizeOf136,
  v37 := Tryz.zeroValue136,
  t70 := Tryz.underlying135,
  a70 := Tryz.isAgg135,
  z70 := Tryz.sizeOf135,
  v70 := Tryz.zeroValue135,
  t72 := Tryz.underlying138,
  a72 := Tryz.isAgg138,
  z72 := Tryz.sizeOf138,
  v72 := Tryz.zeroValue138,
  t75 := Tryz.underlying49,
  a75 := Tryz.isAgg49,
  z75 := Tryz.sizeOf49,
  v75 := Tryz.zeroValue49,
  t164 := Tryz.underlying152,
  a164 := Tryz.isAgg152,
  z164 := Tryz.sizeOf152,
  v164 := Tryz.zeroValue152 }
def layBS_ren : Go.Shelf.Ren := ⟨fun | 169 => 75 | n => n, fun | 70 => 135 | 9 => 9 | 0 => 0 | 72 => 138 | 37 => 136 | 127 => 176 | 3 => 3 | 5 => 5 | 20 => 20 | n => n, fun | n => n⟩
theorem layBS : Go.Proofs.Lays.n169 Tryz.prog layBS_ren := {
  mixed := (by kernel_rfl),
  f169 := Tryz.func75.trans (congrArg some (by kernel_rfl)),
  t0 := Tryz.underlying0,
  a0 := Tryz.isAgg0,
  z0 := Tryz.sizeOf0,
  v0 := Tryz.zeroValue0,
  t3 := Tryz.underlying3,
  a3 := Tryz.isAgg3,
  z3 := Tryz.sizeOf3,
  v3 := Tryz.zeroValue3,
  t9 := Tryz.underlying9,
  a9 := Tryz.isAgg9,
  z9 := Tryz.sizeOf9,
  v9 := Tryz.zeroValue9,
  t37 := Tryz.underlying136,
  a37 := Tryz.isAgg136,
  z37 := Tryz.sizeOf136,
  v37 := Tryz.zeroValue136,
  t70 := Tryz.underlying135,
  a70 := Tryz.isAgg135,
  z70 := Tryz.sizeOf135,
  v70 := Tryz.zeroValue135,
  t72 := Tryz.underlying138,
  a72 := Tryz.isAgg138,
  z72 := Tryz.sizeOf138,
  v72 := Tryz.zeroValue138,
  t127 := Tryz.underlying176,
  a127 := Tryz.isAgg176,
  z127 := Tryz.sizeOf176,
  v127 := Tryz.zeroValue176 }
def layWB_ren : Go.Shelf.Ren := ⟨fun | 167 => 72 | 240 => 105 | 276 => 127 | n => n, fun | 70 => 135 | 5 => 5 | 75 => 49 | 0 => 0 | 72 => 138 | 37 => 136 | 4 => 4 | 164 => 152 | 80 => 142 | 9 => 9 | 20 => 20 | n => n, fun | n => n⟩
theorem layWB : Go.Proofs.Lays.n167 Tryz.prog layWB_ren := {
  mixed := (by kernel_rfl),
  f167 := Tryz.func72.trans (congrArg some (by kernel_rfl)),
  f240 := Tryz.func105.trans (congrArg some (by kernel_rfl)),
  f276 := Tryz.func127.trans (congrArg some (by kernel_rfl)),
  t0 := Tryz.underlying0,
  a0 := Tryz.isAgg0,
  z0 := Tryz.sizeOf0,
  v0 := Tryz.zeroValue0,
  t4 := Tryz.underlying4,
  a4 := Tryz.isAgg4,
  z4 := Tryz.sizeOf4,
  v4 := Tryz.zeroValue4,
  t5 := Tryz.underlying5,
  a5 := Tryz.isAgg5,
  z5 := Tryz.sizeOf5,
  v5 := Tryz.zeroValue5,
  t9 := Tryz.underlying9,
  a9 := Tryz.isAgg9,
  z9 := Tryz.sizeOf9,
  v9 := Tryz.zeroValue9,
  t20 := Tryz.underlying20,
  a20 := Tryz.isAgg20,
  z20 := Tryz.sizeOf20,
  v20 := Tryz.zeroValue20,
  t37 := Tryz.underlying136,
  a37 := Tryz.isAgg136,
  z37 := Tryz.sizeOf136,
  v37 := Tryz.zeroValue136,
  t70 := Tryz.underlying135,
  a70 := Tryz.isAgg135,
  z70 := Tryz.sizeOf135,
  v70 := Tryz.zeroValue135,
  t72 := Tryz.underlying138,
  a72 := Tryz.isAgg138,
  z72 := Tryz.sizeOf138,
  v72 := Tryz.zeroValue138,
  t75 := Tryz.underlying49,
  a75 := Tryz.isAgg49,
  z75 := Tryz.sizeOf49,
  v75 := Tryz.zeroValue49,
  t164 := Tryz.underlying152,
  a164 := Tryz.isAgg152,
  z164 := Tryz.sizeOf152,
  v164 := Tryz.zeroValue152 }
def layIB_ren : Go.Shelf.Ren := ⟨fun | 137 => 106 | 217 => 128 | 266 => 166 | n => n, fun | 9 => 9 | 5 => 5 | 3 => 3 | 20 => 20 | n => n, fun | n => n⟩
theorem layIB : Go.Proofs.Lays.n137 Tryz.prog layIB_ren := {
  mixed := (by kernel_rfl),
  f137 := Tryz.func106.trans (congrArg some (by kernel_rfl)),
  f217 := Tryz.func128.trans (congrArg some (by kernel_rfl)),
  f266 := Tryz.func166.trans (congrArg some (by kernel_rfl)),
  t3 := Tryz.underlying3,
  a3 := Tryz.isAgg3,
  z3 := Tryz.sizeOf3,
  v3 := Tryz.zeroValue3,
  t5 := Tryz.underlying5,
  a5 := Tryz.isAgg5,
  z5 := Tryz.sizeOf5,
  v5 := Tryz.zeroValue5,
  t9 := Tryz.underlying9,
  a9 := Tryz.isAgg9,
  z9 := Tryz.sizeOf9,
  v9 := Tryz.zeroValue9 }
end Go.Proofs.YtkfpnlenmdlmjaaGreatDoor
namespace Go.Proofs.YtkfpnlenmdlmjaaGreatDoor
open Go.RowKit Go.Shelf Scm
/-- Nothing but the cells of S has turned. -/
def KeptOf (S : Addr → Prop) (w w' : World) : Prop := Below 0 w w' ∧ (∀ k, k < w.heap.size → (∀ p : Addr, p.block = k → ¬ S p) → w'.heap[k]? = w.heap[k]?) ∧ ∀ p : Addr, p.block < w.heap.size → ¬ S p → w'.cell? p = w.cell? p ∧ w'.frozen? p = w.frozen? p
theorem KeptOf.refl (S : Addr → Prop) (w : World) : KeptOf S w w := ⟨Below.refl _ _, fun _ _ _ => rfl, fun _ _ _ => ⟨rfl, rfl⟩⟩
theorem KeptOf.trans {S : Addr → Prop} {w w1 w2 : World} (h : KeptOf S w w1) (g : KeptOf S w1 w2) : KeptOf S w w2 :=
  ⟨h.1.trans g.1, fun k hk hs => (g.2.1 k (Nat.lt_of_lt_of_le hk h.1.size) hs).trans (h.2.1 k hk hs), fun p hp hs => ⟨(g.2.2 p (Nat.lt_of_lt_of_le hp h.1.size) hs).1.trans (h.2.2 p hp hs).1, (g.2.2 p (Nat.lt_of_lt_of_le hp h.1.size) hs).2.trans (h.2.2 p hp hs).2⟩⟩
theorem KeptOf.call {S : Addr → Prop} {w w1 w2 : World} (h : KeptOf S w w1) (g : Below w1.heap.size w1 w2) : KeptOf S w w2 := h.trans ⟨g.mono (Nat.zero_le _), fun k hk _ => g.block k hk, fun _ hp _ => ⟨g.cell hp, g.frozen hp⟩⟩
theorem KeptOf.only {S : Addr → Prop} {b : Nat} {w w1 w2 : World} (h : KeptOf S w w1) (g : Only b w1 w2) (hb : ∀ p : Addr, p.block = b → S p) : KeptOf S w w2 :=
  h.trans ⟨g.1.mono (Nat.zero_le _), fun k hk hs => g.2 k hk (fun e => hs ⟨k, 0, none⟩ rfl (hb _ e)), fun p hp hs => ⟨g.cell hp (fun e => hs (hb p e)), g.frozen hp (fun e => hs (hb p e))⟩⟩
theorem KeptOf.set {S : Addr → Prop} {w w1 : World} (h : KeptOf S w w1) (p : Addr) (hp : S p) (v : Value) : KeptOf S w (w1.setCell p v) :=
  h.trans ⟨(Below.refl _ _).setCell (Nat.zero_le _) v, fun _ _ hs => Below.heap_setCell _ _ _ _ (fun e => hs p e.symm hp), fun q _ hs => ⟨World.cell?_setCell_other _ _ _ _ (fun e => hs (e ▸ hp)), by rw [World.frozen?_setCell]⟩⟩
theorem KeptOf.drewN {S : Addr → Prop} {w w1 : World} (h : KeptOf S w w1) (n : Nat) : KeptOf S w (w1.drewN n) := ⟨below_drewN h.1 n, h.2⟩
theorem KeptOf.below {S : Addr → Prop} {w w1 : World} (h : KeptOf S w w1) {B : Nat} (hB : ∀ p, S p → B ≤ p.block) (hw : B ≤ w.heap.size) : Below B w w1 :=
  ⟨h.1.os, h.1.tape, h.1.output, h.1.size, fun k hk => h.2.1 k (by omega) (fun p e hs => by have := hB p hs; omega)⟩
/-- Pointers in a row, to cells that hold numbers. -/
def UnSt (b tb m : Nat) (A : Nat → Nat × Nat) (v : Nat → Int) (w : World) : Prop :=
  tb < w.heap.size ∧ tb ≠ b ∧ (∀ i j, i < m → j < m → A i = A j → i = j) ∧ ∀ j, j < m → w.cell? ⟨tb, j, none⟩ = some (.pointer (some ⟨(A j).1, (A j).2, none⟩)) ∧ (A j).1 < w.heap.size ∧ (A j).1 ≠ b ∧ (A j).1 ≠ tb ∧
    w.cell? ⟨(A j).1, (A j).2, none⟩ = some (.int .i64 (v j)) ∧ w.frozen? ⟨(A j).1, (A j).2, none⟩ = false
theorem UnSt.call {b tb m : Nat} {A : Nat → Nat × Nat} {v : Nat → Int} {w w' : World} (h : UnSt b tb m A v w) (hb : Below w.heap.size w w') : UnSt b tb m A v w' := by
  obtain ⟨h1, h2, h3, h4⟩ := h
  refine ⟨Nat.lt_of_lt_of_le h1 hb.size, h2, h3, fun j hj => ?_⟩
  obtain ⟨q1, q2, q3, q4, q5, q6⟩ := h4 j hj
  exact ⟨(hb.cell (p := ⟨tb, j, none⟩) h1).trans q1, Nat.lt_of_lt_of_le q2 hb.size, q3, q4, (hb.cell (p := ⟨(A j).1, (A j).2, none⟩) q2).trans q5, (hb.frozen (p := ⟨(A j).1, (A j).2, none⟩) q2).trans q6⟩
theorem UnSt.only {b tb m : Nat} {A : Nat → Nat × Nat} {v : Nat → Int} {w w' : World} (h : UnSt b tb m A v w) (hb : Only b w w') : UnSt b tb m A v w' := by
  obtain ⟨h1, h2, h3, h4⟩ := h
  refine ⟨Nat.lt_of_lt_of_le h1 hb.1.size, h2, h3, fun j hj => ?_⟩
  obtain ⟨q1, q2, q3, q4, q5, q6⟩ := h4 j hj
  exact ⟨(hb.cell (p := ⟨tb, j, none⟩) h1 h2).trans q1, Nat.lt_of_lt_of_le q2 hb.1.size, q3, q4, (hb.cell (p := ⟨(A j).1, (A j).2, none⟩) q2 q3).trans q5, (hb.frozen (p := ⟨(A j).1, (A j).2, none⟩) q2 q3).trans q6⟩
theorem UnSt.drewN {b tb m : Nat} {A : Nat → Nat × Nat} {v : Nat → Int} {w : World} (h : UnSt b tb m A v w) (n : Nat) : UnSt b tb m A v (w.drewN n) := h
theorem UnSt.store {b tb m : Nat} {A : Nat → Nat × Nat} {v : Nat → Int} {w : World} (h : UnSt b tb m A v w) {i : Nat} (hi : i < m) (n : Int) : UnSt b tb m A (upd v i n) (w.setCell ⟨(A i).1, (A i).2, none⟩ (.int .i64 n)) := by
  obtain ⟨h1, h2, h3, h4⟩ := h
  obtain ⟨r1, r2, r3, r4, r5, r6⟩ := h4 i hi
  have hz : (w.setCell ⟨(A i).1, (A i).2, none⟩ (.int .i64 n)).heap.size = w.heap.size := by simp [World.setCell]
  refine ⟨by rw [hz]; exact h1, h2, h3, fun j hj => ?_⟩
  obtain ⟨q1, q2, q3, q4, q5, q6⟩ := h4 j hj
  refine ⟨?_, by rw [hz]; exact q2, q3, q4, ?_, by rw [World.frozen?_setCell]; exact q6⟩
  · rw [World.cell?_setCell_other _ _ _ _ (by intro e; have := congrArg Addr.block e; exact r4 this)]; exact q1
  · by_cases hij : j = i
    · subst hij
      rw [upd_same]
      exact World.cell?_setCell_same _ _ _ q5
    · rw [upd_other _ _ hij, World.cell?_setCell_other _ _ _ _ ?_]
      · exact q5
      · intro e
        have e1 := congrArg Addr.block e
        have e2 := congrArg Addr.off e
        exact hij (h3 j i hj hi (Prod.ext e1.symm e2.symm))
theorem UnSt.scan {b tb m : Nat} {A : Nat → Nat × Nat} {v : Nat → Int} {w : World} (h : UnSt b tb m A v w) (o : Nat) (x : Value) : UnSt b tb m A v (w.setCell ⟨b, o, none⟩ x) := h.only ((Only.refl b w).setCell o x)
theorem UnSt.store2 {b tb m : Nat} {A : Nat → Nat × Nat} {v : Nat → Int} {w : World} (h : UnSt b tb m A v w) {i a1 a2 : Nat} (hi : i < m) (h1 : (A i).1 = a1) (h2 : (A i).2 = a2) (n : Int) : UnSt b tb m A (upd v i n) (w.setCell ⟨a1, a2, none⟩ (.int .i64 n)) := by
  subst h1 h2
  exact h.store hi n
theorem ScanAt.set2 {b : Nat} {s : ByteArray} {k : Int} {w : World} (h : ScanAt b s k w) (p : Addr) (hp : p.block ≠ b) (v : Value) : ScanAt b s k (w.setCell p v) := by
  obtain ⟨h1, h2, h3, h4⟩ := h
  refine ⟨by simp [World.setCell]; exact h1, ?_, ?_, by rw [World.frozen?_setCell]; exact h4⟩
  · rw [World.cell?_setCell_other _ _ _ _ (by intro e; exact hp (congrArg Addr.block e))]; exact h2
  · rw [World.cell?_setCell_other _ _ _ _ (by intro e; exact hp (congrArg Addr.block e))]; exact h3
theorem ix_none {c : UInt8} : ∀ {l : List UInt8}, l.findIdx? (· == c) = none → Lib.indexByte l c = -1
  | [], _ => rfl
  | x :: l, h => by
    rw [List.findIdx?_cons] at h
    rcases hx : (x == c) with _ | _
    · rw [hx] at h
      simp at h
      have := ix_none (c := c) (l := l) (by simpa using h)
      simp [Lib.indexByte, hx, this]
    · rw [hx] at h; simp at h
theorem ix_some {c : UInt8} : ∀ {l : List UInt8} {i : Nat}, l.findIdx? (· == c) = some i → Lib.indexByte l c = i ∧ i < l.length
  | [], _, h => by simp at h
  | x :: l, i, h => by
    rw [List.findIdx?_cons] at h
    rcases hx : (x == c) with _ | _
    · rw [hx] at h
      simp only [Bool.false_eq_true, if_false, Option.map_eq_some_iff] at h
      obtain ⟨j, hj, rfl⟩ := h
      obtain ⟨h1, h2⟩ := ix_some (c := c) (l := l) hj
      refine ⟨?_, by simp; omega⟩
      simp only [Lib.indexByte, hx, h1]
      rw [if_neg (by simp), if_neg (by simp)]
      omega
    · rw [hx] at h
      simp at h
      subst h
      simp [Lib.indexByte, hx]
theorem ext_fromT (s : ByteArray) (n : Nat) : (s.extract n s.size).data.toList = s.data.toList.drop n := by
  rw [Lib.extract_data, List.take_of_length_le (by rw [List.length_drop, lenT]; omega)]
/-- What units may write. -/
def UnS (b m : Nat) (A : Nat → Nat × Nat) : Addr → Prop := fun p => p.block = b ∨ ∃ j, j < m ∧ p = ⟨(A j).1, (A j).2, none⟩
/-- What units answers. -/
def UPost (b tb m : Nat) (s : ByteArray) (A : Nat → Nat × Nat) (U : Ures) (w : World) (e : Ending) (w' : World) : Prop :=
  KeptOf (UnS b m A) w w' ∧
  ((U.err = 0 ∧ e = .returned (.tuple #[.bool U.some_, .nilIface]) ∧ ScanAt b s (U.at_ : Int) w' ∧ U.at_ ≤ s.size ∧ UnSt b tb m A U.val w') ∨
   (U.err ≠ 0 ∧ ∃ v, e = .returned (.tuple #[.bool false, v]) ∧ AtBox w.heap.size U.err U.at_ v w'))
set_option maxRecDepth 100000 in
set_option maxHeartbeats 8000000 in
theorem units_any (b tb m cap : Nat) (s u : ByteArray) (k : Nat) (A : Nat → Nat × Nat) (v0 : Nat → Int) (w : World) (h : ScanAt b s k w) (hk : k ≤ s.size) (hs : s.size ≤ 9223372036854775807) (hu : u.size = m) (hm : m ≤ 10) (hU : UnSt b tb m A v0 w) :
    Calls Tryz.prog 76 #[.pointer (some ⟨b, 0, none⟩), .string u, .slice (some ⟨tb, 0, none⟩) m cap] w (UPost b tb m s A (unitsF s.data.toList u.data.toList (m + 1) 0 k v0 false) w) := by
  obtain ⟨U, hUU⟩ : ∃ U, unitsF s.data.toList u.data.toList (m + 1) 0 k v0 false = U := ⟨_, rfl⟩
  rw [hUU]
  have H := Lib.hid h
  have HU := Lib.hid hUU
  have HN := Lib.hid hU
  clear h hUU hU
  go_enter Tryz.func76, Tryz.ntmps76
  go_wp2_with fail
  go_loopw [6, 8] (fun sm nx wr => ∃ (K n f : Nat) (v : Nat → Int) (sb : Bool), nx = .int .i64 (n : Int) ∧ sm = .bool sb ∧ n ≤ m ∧ m < n + f ∧ K ≤ s.size ∧ Hid (unitsF s.data.toList u.data.toList f n K v sb = U) ∧ Hid (ScanAt b s K wr) ∧ Hid (UnSt b tb m A v wr) ∧ Hid (KeptOf (UnS b m A) w wr)) (fun _ c _ => m - (intOf c).toNat)
  case atStart => exact ⟨k, 0, m + 1, v0, false, rfl, rfl, by omega, by omega, hk, HU, H, HN, Lib.hid (KeptOf.refl _ _)⟩
  case round =>
    clear H HU HN hk
    obtain ⟨K, n, f, v, sb, rfl, rfl, hn, hf, hK, HU, H, HN, HK⟩ := hrel
    obtain ⟨f, rfl⟩ : ∃ g, f = g + 1 := ⟨f - 1, by omega⟩
    obtain ⟨wA, hwA⟩ : ∃ wA : World, wA = wr := ⟨_, rfl⟩
    subst hwA
    have CR : Hid (∀ w0, ScanAt b s K w0 → Calls Tryz.prog 80 #[.pointer (some ⟨b, 0, none⟩)] w0 fun e w' => e = .returned (.int .i64 (run_ s K : Nat)) ∧ ∃ q, w' = w0.drewN q) := Lib.hid fun w0 h => crun_any b s K w0 h hK hs
    obtain ⟨R, hR⟩ : ∃ R, run_ s K = R := ⟨_, rfl⟩
    have hR2 : runL s.data.toList K = R := hR
    have hRs := run_le s K hK
    rw [hR] at CR hRs
    have HR := Lib.hid hR
    have HR2 := Lib.hid hR2
    clear hR hR2
    by_cases hR0 : R = 0
    · have HE : Hid (U = ⟨K, v, sb, 0⟩) := Lib.hid (by rw [← HU.out]; exact unitsF_none (HR2.out.trans hR0))
      subst hR0
      go_wp2_with (go_at_call 80; (with_reducible refine (CR.out _ H.out).mono ?_); rintro e w1 ⟨rfl, q, rfl⟩)
      go_ret2
      refine ⟨HK.out.drewN _, .inl ?_⟩
      rw [HE.out]
      exact ⟨rfl, rfl, H.out.drewN _, hK, HN.out.drewN _⟩
    · have hd0 : decide (0 < R) = true := decide_eq_true (by omega)
      have hd0i : decide (0 < (R : Int)) = true := decide_eq_true (by omega)
      have hR1 : 0 < R := by omega
      clear hR0
      by_cases hR8 : 8 < R
      · have HE : Hid (U = ⟨K, v, sb, 6⟩) := Lib.hid (by rw [← HU.out]; exact unitsF_many (by rw [HR2.out]; exact hR8))
        have hd8 : decide (8 < R) = true := decide_eq_true hR8
        have hd8i : decide (8 < (R : Int)) = true := decide_eq_true (by omega)
        obtain ⟨hb, h0, h1, hfz⟩ := H.out
        clear hRs
        go_wp2_with (go_at_call 80; (first | (with_reducible refine (CR.out _ H.out).mono ?_) | (with_reducible refine (CR.out _ (H.out.drewN _)).mono ?_)); rintro e w1 ⟨rfl, q, rfl⟩)
        go_region_with fail
        all_goals
          go_wp2_with fail
          go_ret2
          refine ⟨(HK.out.drewN _).call (by repeat (first | exact Below.refl _ _ | exact (Below.refl _ _).alloc (Nat.le_refl _) _ | (refine Below.drew ?_))), .inr ?_⟩
          rw [HE.out]
          exact ⟨by show (6 : Int) ≠ 0; decide, _, rfl, (AtBox.new _ 6 K).mono HK.out.1.size⟩
      · have hd8 : decide (8 < R) = false := decide_eq_false hR8
        have hd8i : decide (8 < (R : Int)) = false := decide_eq_false (by omega)
        have CG : Hid (∀ w0, ScanAt b s K w0 → Calls Tryz.prog 78 #[.pointer (some ⟨b, 0, none⟩), .int .i64 (R : Int)] w0 (ScPost b s w0 (.tuple #[.int .i64 (num_ s K R : Nat), .bool true]) (K + R : Nat))) := Lib.hid fun w0 h => by
          have q := digits_any b s K R R rfl w0 h hK hs (by omega)
          obtain ⟨q1, q2, q3⟩ := dg_yes (s := s) (k := K) (n := R) (by rw [HR.out]; exact Nat.le_refl _)
          rw [q1, q2, q3] at q
          exact q
        obtain ⟨X, hX⟩ : ∃ X, num_ s K R = X := ⟨_, rfl⟩
        obtain ⟨K2, hK2⟩ : ∃ K2, K + R = K2 := ⟨_, rfl⟩
        rw [hX, hK2] at CG
        have HX : Hid (numF s.data.toList K R = X) := Lib.hid hX
        have HK2 := Lib.hid hK2
        rw [hK2] at hRs
        clear hX hK2
        unfold ScPost at CG
        by_cases hlt : K2 < s.size
        · have hlb : decide (K2 < s.size) = true := decide_eq_true hlt
          have hlbi : decide ((K2 : Int) < (s.size : Int)) = true := decide_eq_true (by omega)
          obtain ⟨c, hc⟩ : ∃ c, s[K2] = c := ⟨_, rfl⟩
          have hcL : s.data.toList[K + R]'(by rw [HK2.out, lenT]; exact hlt) = c := by have e := HK2.out; subst e; exact hc
          have HcL := Lib.hid hcL
          have hun := ext_fromT u n
          rw [hu] at hun
          have CI : Hid (∀ w0, Calls Tryz.prog 106 #[.string (u.extract n m), .int .u8 (c.toNat : Int)] w0 fun e w' => e = .returned (.int .i64 (Lib.indexByte (u.data.toList.drop n) c)) ∧ w' = w0) := Lib.hid fun w0 => by
            have q := Any.strings_IndexByte layIB (u.extract n m) (c.toNat : Int) w0
            rw [hun] at q
            simp at q
            exact q
          clear hun hcL
          rcases hfi : (u.data.toList.drop n).findIdx? (· == c) with _ | i
          · have hix := ix_none hfi
            rw [hix] at CI
            have HE : Hid (U = ⟨K2, v, sb, 5⟩) := Lib.hid (by rw [← HU.out]; exact (unitsF_bad (by rw [HR2.out]; exact hR1) (by rw [HR2.out]; omega) (by rw [HR2.out, HK2.out, lenT]; exact hlt) (by simp only [HR2.out, HcL.out]; exact hfi)).trans (by rw [HR2.out, HK2.out]))
            clear hix hfi
            have CB : Hid (∀ w0, ScanAt b s K2 w0 → Calls Tryz.prog 45 #[.pointer (some ⟨b, 0, none⟩)] w0 fun e w' => ∃ v, e = .returned v ∧ AtBox w0.heap.size 5 K2 v w' ∧ Below w0.heap.size w0 w') := Lib.hid fun w0 h => (bad_any b s K2 w0 h).mono fun e w' ⟨p, h1, h2⟩ => ⟨_, h1, h2⟩
            go_wp2_with (first
              | (go_at_call 80; (first | (with_reducible refine (CR.out _ H.out).mono ?_) | (with_reducible refine (CR.out _ (H.out.drewN _)).mono ?_)); rintro e w1 ⟨rfl, q, rfl⟩)
              | (go_at_call 78; (with_reducible refine (CG.out _ (H.out.drewN _)).mono ?_); rintro e w2 ⟨rfl, hS2, hO2⟩; have HS2 := Lib.hid hS2; have HO2 := Lib.hid hO2; obtain ⟨-, d0, d1, df⟩ := hS2; clear hO2))
            go_quiet (fail)
            go_wp2_with fail
            go_quiet ((go_at_call 106; exact quiet_add_same (CI.out _)))
            go_wp2_with (go_at_call 45; (with_reducible refine (CB.out _ (HS2.out.drewN _)).mono ?_); rintro e w3 ⟨v5, rfl, hv, hb3⟩; have HV := Lib.hid hv; have HB3 := Lib.hid hb3; clear hv hb3)
            go_ret2
            refine ⟨(((HK.out.drewN _).only HO2.out (fun _ e => .inl e)).drewN _).call HB3.out, .inr ?_⟩
            rw [HE.out]
            exact ⟨by show (5 : Int) ≠ 0; decide, _, rfl, HV.out.mono (((HK.out.drewN _).only HO2.out (fun _ e => .inl e)).drewN 0).1.size⟩
          · obtain ⟨hix, hil⟩ := ix_some hfi
            rw [List.length_drop, lenT, hu] at hil
            rw [hix] at CI
            have HE : Hid (unitsF s.data.toList u.data.toList f (n + i + 1) (K2 + 1) (upd v (n + i) (X : Nat)) true = U) := Lib.hid (by rw [← HU.out]; exact ((unitsF_next (by rw [HR2.out]; exact hR1) (by rw [HR2.out]; omega) (by rw [HR2.out, HK2.out, lenT]; exact hlt) (by simp only [HR2.out, HcL.out]; exact hfi)).trans (by rw [HR2.out, HK2.out, HX.out])).symm)
            clear hix hfi
            obtain ⟨J, hJ⟩ : ∃ J, n + i = J := ⟨_, rfl⟩
            have hJm : J < m := by omega
            have e1 : wrap64 ((n : Int) + (i : Int)) = (J : Int) := by rw [← hJ]; exact IntWalk.wrap64_in ((n : Int) + (i : Int)) (by omega)
            have e2 : (n : Int) + (i : Int) = (J : Int) := by omega
            have e3 : (n : Int) + ((i : Int) + 1) = (J : Int) + 1 := by omega
            have e4 : (n : Int) + (i : Int) + 1 = (J : Int) + 1 := by omega
            rw [hJ] at HE
            have HJ := Lib.hid hJ
            have hUn := HN.out.2.2.2 J hJm
            obtain ⟨a1, ha1⟩ : ∃ a, (A J).1 = a := ⟨_, rfl⟩
            obtain ⟨a2, ha2⟩ : ∃ a, (A J).2 = a := ⟨_, rfl⟩
            have HA := Lib.hid (And.intro ha1 ha2)
            rw [ha1, ha2] at hUn
            clear ha1 ha2 hJ hil
            have htb := HN.out.2.1
            obtain ⟨p1, p2, p3, p4, p5, p6⟩ := hUn
            have hlt0 := HN.out.1
            have HP := Lib.hid (And.intro (And.intro p1 p2) (And.intro p5 p6))
            have HLT := Lib.hid hlt0
            clear p1 p2 p5 p6 hlt0
            go_wp2_with (first
              | (go_at_call 80; (first | (with_reducible refine (CR.out _ H.out).mono ?_) | (with_reducible refine (CR.out _ (H.out.drewN _)).mono ?_)); rintro e w1 ⟨rfl, q, rfl⟩)
              | (go_at_call 78; (with_reducible refine (CG.out _ (H.out.drewN _)).mono ?_); rintro e w2 ⟨rfl, hS2, hO2⟩; have HS2 := Lib.hid hS2; have HO2 := Lib.hid hO2; obtain ⟨-, d0, d1, df⟩ := hS2; have t1 := (hO2.cell (p := ⟨tb, J, none⟩) HLT.out htb).trans HP.out.1.1; have t2 := (hO2.cell (p := ⟨a1, a2, none⟩) HP.out.1.2 p3).trans HP.out.2.1; have t3 := (hO2.frozen (p := ⟨a1, a2, none⟩) HP.out.1.2 p3).trans HP.out.2.2; clear hO2))
            go_quiet (fail)
            go_wp2_with fail
            go_quiet ((go_at_call 106; exact quiet_add_same (CI.out _)))
            go_wp2_with fail
            go_roundw
            case rel =>
              refine ⟨K2 + 1, J + 1, f, upd v J (X : Nat), true, by go_num, rfl, by omega, by have := HJ.out; omega, by omega, HE, Lib.hid ?_, Lib.hid ?_, Lib.hid ?_⟩
              · exact ((HS2.out.drewN _).set _).set2 _ p3 _
              · exact ((((HN.out.drewN _).only HO2.out).drewN _).scan 1 _).store2 hJm HA.out.1 HA.out.2 _
              · exact ((((HK.out.drewN _).only HO2.out (fun _ e => .inl e)).drewN _).set _ (.inl rfl) _).set _ (.inr ⟨J, hJm, by rw [HA.out.1, HA.out.2]⟩) _
            case measure => simp [intOf]; omega
        · have hlb : decide (K2 < s.size) = false := decide_eq_false hlt
          have hlbi : decide ((K2 : Int) < (s.size : Int)) = false := decide_eq_false (by omega)
          have HE : Hid (U = ⟨K2, v, sb, 5⟩) := Lib.hid (by rw [← HU.out]; exact (unitsF_end (by rw [HR2.out]; exact hR1) (by rw [HR2.out]; omega) (by rw [HR2.out, HK2.out, lenT]; omega)).trans (by rw [HR2.out, HK2.out]))
          have CB : Hid (∀ w0, ScanAt b s K2 w0 → Calls Tryz.prog 45 #[.pointer (some ⟨b, 0, none⟩)] w0 fun e w' => ∃ v, e = .returned v ∧ AtBox w0.heap.size 5 K2 v w' ∧ Below w0.heap.size w0 w') := Lib.hid fun w0 h => (bad_any b s K2 w0 h).mono fun e w' ⟨p, h1, h2⟩ => ⟨_, h1, h2⟩
          go_wp2_with (first
            | (go_at_call 80; (first | (with_reducible refine (CR.out _ H.out).mono ?_) | (with_reducible refine (CR.out _ (H.out.drewN _)).mono ?_)); rintro e w1 ⟨rfl, q, rfl⟩)
            | (go_at_call 78; (with_reducible refine (CG.out _ (H.out.drewN _)).mono ?_); rintro e w2 ⟨rfl, hS2, hO2⟩; have HS2 := Lib.hid hS2; have HO2 := Lib.hid hO2; obtain ⟨-, d0, d1, df⟩ := hS2; clear hO2))
          go_quiet (fail)
          go_wp2_with (go_at_call 45; (with_reducible refine (CB.out _ (HS2.out.drewN _)).mono ?_); rintro e w3 ⟨v5, rfl, hv, hb3⟩; have HV := Lib.hid hv; have HB3 := Lib.hid hb3; clear hv hb3)
          go_ret2
          refine ⟨(((HK.out.drewN _).only HO2.out (fun _ e => .inl e)).drewN _).call HB3.out, .inr ?_⟩
          rw [HE.out]
          exact ⟨by show (5 : Int) ≠ 0; decide, _, rfl, HV.out.mono (((HK.out.drewN _).only HO2.out (fun _ e => .inl e)).drewN 0).1.size⟩
/-- All that units finds is small. -/
theorem unitsF_bd {l us : List UInt8} : ∀ {f nx k : Nat} {v : Nat → Int} {b : Bool}, (∀ j, 0 ≤ v j ∧ v j < 100000000) → ∀ j, 0 ≤ (unitsF l us f nx k v b).val j ∧ (unitsF l us f nx k v b).val j < 100000000 := by
  intro f
  induction f with
  | zero => intro nx k v b h j; exact h j
  | succ f ih =>
    intro nx k v b h j
    rcases Nat.eq_zero_or_pos (runL l k) with h0 | h0
    · rw [unitsF_none h0]; exact h j
    · by_cases h8 : 8 < runL l k
      · rw [unitsF_many h8]; exact h j
      · by_cases he : k + runL l k < l.length
        · rcases hf : (us.drop nx).findIdx? (· == l[k + runL l k]) with _ | i
          · rw [unitsF_bad h0 (by omega) he hf]; exact h j
          · rw [unitsF_next h0 (by omega) he hf]
            refine ih (fun i => ?_) j
            unfold upd
            split
            · have h1 := numF_lt (l := l) (k := k) (n := runL l k) (Nat.le_refl _)
              have h2 : 10 ^ runL l k ≤ 10 ^ 8 := Nat.pow_le_pow_right (by omega) (by omega)
              simp at h2
              omega
            · exact h i
        · rw [unitsF_end h0 (by omega) (by omega)]; exact h j
/-- Five numbers in a box of the call's own. -/
def Five (B : Nat) (v : Nat → Int) (w : World) : Prop := B < w.heap.size ∧ ∀ i, i < 5 → w.cell? ⟨B, i, none⟩ = some (.int .i64 (v i)) ∧ w.frozen? ⟨B, i, none⟩ = false
theorem Five.call {B : Nat} {v : Nat → Int} {w w' : World} (h : Five B v w) (hb : Below w.heap.size w w') : Five B v w' := ⟨Nat.lt_of_lt_of_le h.1 hb.size, fun i hi => ⟨(hb.cell (p := ⟨B, i, none⟩) h.1).trans (h.2 i hi).1, (hb.frozen (p := ⟨B, i, none⟩) h.1).trans (h.2 i hi).2⟩⟩
theorem Five.only {B b : Nat} {v : Nat → Int} {w w' : World} (h : Five B v w) (hb : Only b w w') (hne : B ≠ b) : Five B v w' := ⟨Nat.lt_of_lt_of_le h.1 hb.1.size, fun i hi => ⟨(hb.cell (p := ⟨B, i, none⟩) h.1 hne).trans (h.2 i hi).1, (hb.frozen (p := ⟨B, i, none⟩) h.1 hne).trans (h.2 i hi).2⟩⟩
theorem Five.kept {S : Addr → Prop} {B : Nat} {v : Nat → Int} {w w' : World} (h : Five B v w) (hb : KeptOf S w w') (hne : ∀ i, i < 5 → ¬ S ⟨B, i, none⟩) : Five B v w' := ⟨Nat.lt_of_lt_of_le h.1 hb.1.size, fun i hi => ⟨(hb.2.2 ⟨B, i, none⟩ h.1 (hne i hi)).1.trans (h.2 i hi).1, (hb.2.2 ⟨B, i, none⟩ h.1 (hne i hi)).2.trans (h.2 i hi).2⟩⟩
theorem Five.new (w : World) (t : TypeId) : Five w.heap.size zero (w.alloc (.cells #[.int .i64 0, .int .i64 0, .int .i64 0, .int .i64 0, .int .i64 0] t)) := by
  refine ⟨by simp, ?_⟩
  intro i hi
  match i, hi with
  | 0, _ => simp [zero]
  | 1, _ => simp [zero]
  | 2, _ => simp [zero]
  | 3, _ => simp [zero]
  | 4, _ => simp [zero]
def agg5 (v : Nat → Int) : Value := .agg #[.int .i64 (v 0), .int .i64 (v 1), .int .i64 (v 2), .int .i64 (v 3), .int .i64 (v 4)]
def PerPost (R : Scm.Per) (w : World) (e : Ending) (w' : World) : Prop := Below w.heap.size w w' ∧ ((R.err = 0 ∧ e = .returned (.tuple #[agg5 R.v, .nilIface])) ∨ (R.err ≠ 0 ∧ ∃ v, e = .returned (.tuple #[agg5 zero, v]) ∧ AtBox w.heap.size R.err R.place v w'))
theorem set_five (w : World) (B : Nat) (x0 x1 x2 x3 x4 y0 y1 y2 y3 y4 : Value) (h0 : w.cell? ⟨B, 0, none⟩ = some y0) (h1 : w.cell? ⟨B, 1, none⟩ = some y1) (h2 : w.cell? ⟨B, 2, none⟩ = some y2) (h3 : w.cell? ⟨B, 3, none⟩ = some y3) (h4 : w.cell? ⟨B, 4, none⟩ = some y4) :
    (((((w.setCell ⟨B, 0, none⟩ x0).setCell ⟨B, 1, none⟩ x1).setCell ⟨B, 2, none⟩ x2).setCell ⟨B, 3, none⟩ x3).setCell ⟨B, 4, none⟩ x4).cell? ⟨B, 0, none⟩ = some x0 ∧
    (((((w.setCell ⟨B, 0, none⟩ x0).setCell ⟨B, 1, none⟩ x1).setCell ⟨B, 2, none⟩ x2).setCell ⟨B, 3, none⟩ x3).setCell ⟨B, 4, none⟩ x4).cell? ⟨B, 1, none⟩ = some x1 ∧
    (((((w.setCell ⟨B, 0, none⟩ x0).setCell ⟨B, 1, none⟩ x1).setCell ⟨B, 2, none⟩ x2).setCell ⟨B, 3, none⟩ x3).setCell ⟨B, 4, none⟩ x4).cell? ⟨B, 2, none⟩ = some x2 ∧
    (((((w.setCell ⟨B, 0, none⟩ x0).setCell ⟨B, 1, none⟩ x1).setCell ⟨B, 2, none⟩ x2).setCell ⟨B, 3, none⟩ x3).setCell ⟨B, 4, none⟩ x4).cell? ⟨B, 3, none⟩ = some x3 ∧
    (((((w.setCell ⟨B, 0, none⟩ x0).setCell ⟨B, 1, none⟩ x1).setCell ⟨B, 2, none⟩ x2).setCell ⟨B, 3, none⟩ x3).setCell ⟨B, 4, none⟩ x4).cell? ⟨B, 4, none⟩ = some x4 := by
  have far : ∀ (u : World) (i j : Nat) (x : Value), i ≠ j → (u.setCell ⟨B, j, none⟩ x).cell? ⟨B, i, none⟩ = u.cell? ⟨B, i, none⟩ := fun u i j x hij => World.cell?_setCell_other _ _ _ _ (by intro e; have := congrArg Addr.off e; exact hij this.symm)
  refine ⟨?_, ?_, ?_, ?_, ?_⟩
  · rw [far _ 0 4 _ (by omega), far _ 0 3 _ (by omega), far _ 0 2 _ (by omega), far _ 0 1 _ (by omega)]; exact World.cell?_setCell_same _ _ _ h0
  · rw [far _ 1 4 _ (by omega), far _ 1 3 _ (by omega), far _ 1 2 _ (by omega)]; exact World.cell?_setCell_same _ _ _ (by rw [far _ 1 0 _ (by omega)]; exact h1)
  · rw [far _ 2 4 _ (by omega), far _ 2 3 _ (by omega)]; exact World.cell?_setCell_same _ _ _ (by rw [far _ 2 1 _ (by omega), far _ 2 0 _ (by omega)]; exact h2)
  · rw [far _ 3 4 _ (by omega)]; exact World.cell?_setCell_same _ _ _ (by rw [far _ 3 2 _ (by omega), far _ 3 1 _ (by omega), far _ 3 0 _ (by omega)]; exact h3)
  · exact World.cell?_setCell_same _ _ _ (by rw [far _ 4 3 _ (by omega), far _ 4 2 _ (by omega), far _ 4 1 _ (by omega), far _ 4 0 _ (by omega)]; exact h4)
end Go.Proofs.YtkfpnlenmdlmjaaGreatDoor
