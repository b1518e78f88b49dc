/- clock.ParsePeriod. Printed by a program of mine. -/
import Derived.Test.YtkfpnlenmdlmjaaGreatDoorZG10
namespace Go.Proofs.YtkfpnlenmdlmjaaGreatDoor
open Go.RowKit Go.Shelf Scm
theorem bad_at (b : Nat) (s : ByteArray) (k : Nat) (w : World) (h : ScanAt b s k w) :
    Calls Tryz.prog 45 #[.pointer (some ⟨b, 0, none⟩)] w fun e w' => e = .returned (.iface 105 (.pointer (some ⟨w.heap.size, 0, none⟩))) ∧ w' = w.alloc (.cells #[.int .i64 5, .int .i64 (k : Int)] 107) := by
  obtain ⟨hb, h0, h1, hf⟩ := h
  go_enter Tryz.func45, Tryz.ntmps45
  go_wp2_with fail
  go_ret
  exact ⟨rfl, rfl⟩
theorem sg_no {s : ByteArray} (h : isB s 0 45 = false) : sgn s.data.toList = 1 ∧ sg0 s.data.toList = 0 := by
  have : ¬ s.data.toList[0]? = some 45 := fun e => by rw [isB_iff.2 e] at h; cases h
  exact ⟨if_neg this, if_neg this⟩
theorem sg_yes {s : ByteArray} (h : isB s 0 45 = true) : sgn s.data.toList = -1 ∧ sg0 s.data.toList = 1 := ⟨if_pos (isB_iff.1 h), if_pos (isB_iff.1 h)⟩
theorem perF_no {s : ByteArray} {k : Nat} (hk : sg0 s.data.toList = k) (h : isB s k 80 = false) : perF s.data.toList = ⟨5, k, zero⟩ := by
  unfold perF
  rw [hk, if_neg (fun e => by rw [isB_iff.2 e] at h; cases h)]
theorem perF_yes {s : ByteArray} {k : Nat} (hk : sg0 s.data.toList = k) (h : isB s k 80 = true) : perF s.data.toList = perT s.data.toList (unitsF s.data.toList ymwd 5 0 (k + 1) zero false) := by
  unfold perF
  rw [hk, if_pos (isB_iff.1 h)]
theorem perT_err {s : ByteArray} {u : Ures} (h : u.err ≠ 0) : perT s.data.toList u = ⟨u.err, u.at_, zero⟩ := by unfold perT; rw [if_neg h]
theorem perT_no {s : ByteArray} {u : Ures} (h : u.err = 0) (ht : isB s u.at_ 84 = false) : perT s.data.toList u = perZ s.data.toList u.val zero u.some_ u.at_ := by
  unfold perT; rw [if_pos h, if_neg (fun e => by rw [isB_iff.2 e] at ht; cases ht)]
theorem perT_yes {s : ByteArray} {u x : Ures} (h : u.err = 0) (ht : isB s u.at_ 84 = true) (hx : unitsF s.data.toList hms 4 0 (u.at_ + 1) zero false = x) : perT s.data.toList u = if x.err = 0 then perZ s.data.toList u.val x.val x.some_ x.at_ else ⟨x.err, x.at_, zero⟩ := by
  unfold perT; rw [if_pos h, if_pos (isB_iff.1 ht)]; simp only [hx]
theorem perZ_bad {s : ByteArray} {v t : Nat → Int} {b : Bool} {k : Nat} (h : b = false ∨ k < s.size) : perZ s.data.toList v t b k = ⟨5, k, zero⟩ := by
  unfold perZ; rw [lenT, if_neg]; rintro ⟨rfl, h2⟩; rcases h with h | h
  · cases h
  · omega
theorem perZ_ok {s : ByteArray} {v t : Nat → Int} {b : Bool} {k : Nat} (h1 : b = true) (h : ¬ k < s.size) : (perZ s.data.toList v t b k).err = 0 ∧ (perZ s.data.toList v t b k).v 0 = sgn s.data.toList * v 0 ∧ (perZ s.data.toList v t b k).v 1 = sgn s.data.toList * v 1 ∧ (perZ s.data.toList v t b k).v 2 = sgn s.data.toList * v 2 ∧ (perZ s.data.toList v t b k).v 3 = sgn s.data.toList * v 3 ∧ (perZ s.data.toList v t b k).v 4 = sgn s.data.toList * ((t 0 * 60 + t 1) * 60 + t 2) ∧ (perZ s.data.toList v t b k).place = -1 := by
  have e : perZ s.data.toList v t b k = ⟨0, -1, fun i => match i with | 0 => sgn s.data.toList * v 0 | 1 => sgn s.data.toList * v 1 | 2 => sgn s.data.toList * v 2 | 3 => sgn s.data.toList * v 3 | _ => sgn s.data.toList * ((t 0 * 60 + t 1) * 60 + t 2)⟩ := by
    unfold perZ; rw [lenT]; exact if_pos ⟨h1, by omega⟩
  rw [e]
  exact ⟨rfl, rfl, rfl, rfl, rfl, rfl, rfl⟩
theorem ScanAt.place {b : Nat} {s : ByteArray} {k j : Int} {w : World} (h : ScanAt b s k w) (e : k = j) : ScanAt b s j w := e ▸ h
theorem UnSt.four (w : World) (b P : Nat) (v : Nat → Int) (hP : Five P v w) (hb : b < w.heap.size) (hne : P ≠ b) (t : TypeId) :
    UnSt b w.heap.size 4 (fun j => (P, j)) v (w.alloc (.cells #[.pointer (some ⟨P, 0, none⟩), .pointer (some ⟨P, 1, none⟩), .pointer (some ⟨P, 2, none⟩), .pointer (some ⟨P, 3, none⟩)] t)) := by
  refine ⟨by simp, by omega, fun i j _ _ e => congrArg Prod.snd e, ?_⟩
  intro j hj
  have q := hP.call ((Below.refl _ _).alloc (Nat.le_refl _) (.cells #[.pointer (some ⟨P, 0, none⟩), .pointer (some ⟨P, 1, none⟩), .pointer (some ⟨P, 2, none⟩), .pointer (some ⟨P, 3, none⟩)] t))
  refine ⟨?_, q.1, hne, Nat.ne_of_lt hP.1, (q.2 j (by omega)).1, (q.2 j (by omega)).2⟩
  match j, hj with
  | 0, _ => simp
  | 1, _ => simp
  | 2, _ => simp
  | 3, _ => simp
theorem nf (i b B : Nat) (A : Nat → Nat × Nat) (m : Nat) (h1 : B ≠ b) (h2 : ∀ j, j < m → (B, i) ≠ A j) : ¬ UnS b m A ⟨B, i, none⟩ := by
  rintro (h | ⟨j, hj, h⟩)
  · exact h1 h
  · exact h2 j hj (Prod.ext (congrArg Addr.block h) (congrArg Addr.off h))
theorem below_set5 {w w1 : World} {B : Nat} (h : Below w.heap.size w w1) (hB : w.heap.size ≤ B) (x0 x1 x2 x3 x4 : Value) : Below w.heap.size w (((((w1.setCell ⟨B, 0, none⟩ x0).setCell ⟨B, 1, none⟩ x1).setCell ⟨B, 2, none⟩ x2).setCell ⟨B, 3, none⟩ x3).setCell ⟨B, 4, none⟩ x4) :=
  ((((h.setCell (p := ⟨B, 0, none⟩) hB x0).setCell (p := ⟨B, 1, none⟩) hB x1).setCell (p := ⟨B, 2, none⟩) hB x2).setCell (p := ⟨B, 3, none⟩) hB x3).setCell (p := ⟨B, 4, none⟩) hB x4
theorem AtBox.set5 {w1 : World} {B C : Nat} {n k : Int} {v : Value} (h : AtBox C n k v w1) (hB : B < C) (x0 x1 x2 x3 x4 : Value) : AtBox C n k v (((((w1.setCell ⟨B, 0, none⟩ x0).setCell ⟨B, 1, none⟩ x1).setCell ⟨B, 2, none⟩ x2).setCell ⟨B, 3, none⟩ x3).setCell ⟨B, 4, none⟩ x4) :=
  ((((h.set (q := ⟨B, 0, none⟩) hB x0).set (q := ⟨B, 1, none⟩) hB x1).set (q := ⟨B, 2, none⟩) hB x2).set (q := ⟨B, 3, none⟩) hB x3).set (q := ⟨B, 4, none⟩) hB x4
theorem Five.far {B : Nat} {v : Nat → Int} {w : World} (h : Five B v w) {p : Addr} (hp : p.block ≠ B) (x : Value) : Five B v (w.setCell p x) :=
  ⟨by simp [World.setCell]; exact h.1, fun i hi => ⟨(World.cell?_setCell_other _ _ _ _ (by intro e; exact hp (congrArg Addr.block e))).trans (h.2 i hi).1, by rw [World.frozen?_setCell]; exact (h.2 i hi).2⟩⟩
theorem UnSt.three (w : World) (b : Nat) (hb : b < w.heap.size) (ti t : TypeId) :
    UnSt b (w.heap.size + 3) 3 (fun j => (w.heap.size + j, 0)) zero ((((w.alloc (.cells #[.int .i64 0] ti)).alloc (.cells #[.int .i64 0] ti)).alloc (.cells #[.int .i64 0] ti)).alloc (.cells #[.pointer (some ⟨w.heap.size, 0, none⟩), .pointer (some ⟨w.heap.size + 1, 0, none⟩), .pointer (some ⟨w.heap.size + 2, 0, none⟩)] t)) := by
  have far : ∀ (u : World) (o : Obj) (p : Addr), p.block < u.heap.size → (u.alloc o).cell? p = u.cell? p ∧ (u.alloc o).frozen? p = u.frozen? p := fun u o p hp => ⟨World.cell?_alloc_lt _ _ p hp, World.frozen?_alloc_old _ _ p (Nat.ne_of_lt hp)⟩
  obtain ⟨u1, hu1⟩ : ∃ u, w.alloc (.cells #[.int .i64 0] ti) = u := ⟨_, rfl⟩
  obtain ⟨u2, hu2⟩ : ∃ u, u1.alloc (.cells #[.int .i64 0] ti) = u := ⟨_, rfl⟩
  obtain ⟨u3, hu3⟩ : ∃ u, u2.alloc (.cells #[.int .i64 0] ti) = u := ⟨_, rfl⟩
  have s1 : u1.heap.size = w.heap.size + 1 := by rw [← hu1]; simp
  have s2 : u2.heap.size = w.heap.size + 2 := by rw [← hu2]; simp; omega
  have s3 : u3.heap.size = w.heap.size + 3 := by rw [← hu3]; simp; omega
  have g1 : u1.cell? ⟨w.heap.size, 0, none⟩ = some (.int .i64 0) ∧ u1.frozen? ⟨w.heap.size, 0, none⟩ = false := by rw [← hu1]; constructor <;> simp
  have g2 : u2.cell? ⟨w.heap.size + 1, 0, none⟩ = some (.int .i64 0) ∧ u2.frozen? ⟨w.heap.size + 1, 0, none⟩ = false := by rw [← hu2, ← s1]; constructor <;> simp
  have g3 : u3.cell? ⟨w.heap.size + 2, 0, none⟩ = some (.int .i64 0) ∧ u3.frozen? ⟨w.heap.size + 2, 0, none⟩ = false := by rw [← hu3, ← s2]; constructor <;> simp
  rw [hu1, hu2, hu3]
  have f1 : ∀ o, (u3.alloc o).cell? ⟨w.heap.size, 0, none⟩ = some (.int .i64 0) ∧ (u3.alloc o).frozen? ⟨w.heap.size, 0, none⟩ = false := fun o => by
    have a := far u3 o ⟨w.heap.size, 0, none⟩ (by rw [s3]; show w.heap.size < _; omega)
    have b := far u2 (.cells #[.int .i64 0] ti) ⟨w.heap.size, 0, none⟩ (by rw [s2]; show w.heap.size < _; omega)
    have c := far u1 (.cells #[.int .i64 0] ti) ⟨w.heap.size, 0, none⟩ (by rw [s1]; show w.heap.size < _; omega)
    rw [hu3] at b
    rw [hu2] at c
    exact ⟨a.1.trans (b.1.trans (c.1.trans g1.1)), a.2.trans (b.2.trans (c.2.trans g1.2))⟩
  have f2 : ∀ o, (u3.alloc o).cell? ⟨w.heap.size + 1, 0, none⟩ = some (.int .i64 0) ∧ (u3.alloc o).frozen? ⟨w.heap.size + 1, 0, none⟩ = false := fun o => by
    have a := far u3 o ⟨w.heap.size + 1, 0, none⟩ (by rw [s3]; show w.heap.size + 1 < _; omega)
    have b := far u2 (.cells #[.int .i64 0] ti) ⟨w.heap.size + 1, 0, none⟩ (by rw [s2]; show w.heap.size + 1 < _; omega)
    rw [hu3] at b
    exact ⟨a.1.trans (b.1.trans g2.1), a.2.trans (b.2.trans g2.2)⟩
  have f3 : ∀ o, (u3.alloc o).cell? ⟨w.heap.size + 2, 0, none⟩ = some (.int .i64 0) ∧ (u3.alloc o).frozen? ⟨w.heap.size + 2, 0, none⟩ = false := fun o => by
    have a := far u3 o ⟨w.heap.size + 2, 0, none⟩ (by rw [s3]; show w.heap.size + 2 < _; omega)
    exact ⟨a.1.trans g3.1, a.2.trans g3.2⟩
  refine ⟨by simp; omega, by omega, fun i j _ _ e => by have := congrArg Prod.fst e; simp at this; exact this, ?_⟩
  intro j hj
  rw [← s3]
  match j, hj with
  | 0, _ => exact ⟨by simp, by simp; omega, by show w.heap.size + 0 ≠ b; omega, by show w.heap.size + 0 ≠ _; omega, (f1 _).1, (f1 _).2⟩
  | 1, _ => exact ⟨by simp, by simp; omega, by show w.heap.size + 1 ≠ b; omega, by show w.heap.size + 1 ≠ _; omega, (f2 _).1, (f2 _).2⟩
  | 2, _ => exact ⟨by simp, by simp; omega, by show w.heap.size + 2 ≠ b; omega, by show w.heap.size + 2 ≠ _; omega, (f3 _).1, (f3 _).2⟩
theorem five_ne : (5 : Int) ≠ 0 := by decide
theorem UnS.ge {b m B : Nat} {A : Nat → Nat × Nat} (hb : B ≤ b) (hA : ∀ j, j < m → B ≤ (A j).1) : ∀ p, UnS b m A p → B ≤ p.block := by
  rintro p (h | ⟨j, hj, rfl⟩)
  · rw [h]; exact hb
  · exact hA j hj
/-- What lies in P. -/
def Pcells (w : World) (P : Nat) (a0 a1 a2 a3 a4 : Int) : Prop :=
  P < w.heap.size ∧ (w.cell? ⟨P, 0, none⟩ = some (.int .i64 a0) ∧ w.frozen? ⟨P, 0, none⟩ = false) ∧ (w.cell? ⟨P, 1, none⟩ = some (.int .i64 a1) ∧ w.frozen? ⟨P, 1, none⟩ = false) ∧ (w.cell? ⟨P, 2, none⟩ = some (.int .i64 a2) ∧ w.frozen? ⟨P, 2, none⟩ = false) ∧ (w.cell? ⟨P, 3, none⟩ = some (.int .i64 a3) ∧ w.frozen? ⟨P, 3, none⟩ = false) ∧ w.cell? ⟨P, 4, none⟩ = some (.int .i64 a4) ∧ w.frozen? ⟨P, 4, none⟩ = false
theorem P3 {w2 w3 : World} {o : Obj} {b P TB : Nat} {U : Nat → Int} {a0 a1 a2 a3 : Int} (hP : Five P zero w2) (hU : UnSt b TB 4 (fun j => (P, j)) U w3) (hK : KeptOf (UnS b 4 (fun j => (P, j))) (w2.alloc o) w3) (hne : P ≠ b) (h0 : U 0 = a0) (h1 : U 1 = a1) (h2 : U 2 = a2) (h3 : U 3 = a3) : Pcells w3 P a0 a1 a2 a3 0 := by
  subst h0 h1 h2 h3
  have q := hP.call ((Below.refl _ _).alloc (Nat.le_refl _) o)
  have k := hK.2.2 ⟨P, 4, none⟩ q.1 (nf 4 b P (fun j => (P, j)) 4 hne (fun j hj e => by have := congrArg Prod.snd e; simp at this; omega))
  exact ⟨(hU.2.2.2 0 (by omega)).2.1, (hU.2.2.2 0 (by omega)).2.2.2.2, (hU.2.2.2 1 (by omega)).2.2.2.2, (hU.2.2.2 2 (by omega)).2.2.2.2, (hU.2.2.2 3 (by omega)).2.2.2.2, k.1.trans (q.2 4 (by omega)).1, k.2.trans (q.2 4 (by omega)).2⟩
theorem Pcells.to {w3 w4 : World} {P : Nat} {a0 a1 a2 a3 a4 : Int} (h : Pcells w3 P a0 a1 a2 a3 a4) (hz : w3.heap.size ≤ w4.heap.size) (hc : ∀ i, i < 5 → w4.cell? ⟨P, i, none⟩ = w3.cell? ⟨P, i, none⟩ ∧ w4.frozen? ⟨P, i, none⟩ = w3.frozen? ⟨P, i, none⟩) : Pcells w4 P a0 a1 a2 a3 a4 := by
  obtain ⟨h0, ⟨c0, f0⟩, ⟨c1, f1⟩, ⟨c2, f2⟩, ⟨c3, f3⟩, c4, f4⟩ := h
  have q0 := hc 0 (by omega)
  have q1 := hc 1 (by omega)
  have q2 := hc 2 (by omega)
  have q3 := hc 3 (by omega)
  have q4 := hc 4 (by omega)
  exact ⟨Nat.lt_of_lt_of_le h0 hz, ⟨q0.1.trans c0, q0.2.trans f0⟩, ⟨q1.1.trans c1, q1.2.trans f1⟩, ⟨q2.1.trans c2, q2.2.trans f2⟩, ⟨q3.1.trans c3, q3.2.trans f3⟩, q4.1.trans c4, q4.2.trans f4⟩
theorem P4 {w3 w4 : World} {b P : Nat} {a0 a1 a2 a3 a4 : Int} (hO : Only b w3 w4) (hne : P ≠ b) (h : Pcells w3 P a0 a1 a2 a3 a4) : Pcells w4 P a0 a1 a2 a3 a4 :=
  h.to hO.1.size fun i _ => ⟨hO.cell (p := ⟨P, i, none⟩) h.1 hne, hO.frozen (p := ⟨P, i, none⟩) h.1 hne⟩
theorem Pcells.call {w3 w4 : World} {P : Nat} {a0 a1 a2 a3 a4 : Int} (h : Pcells w3 P a0 a1 a2 a3 a4) (hb : Below w3.heap.size w3 w4) : Pcells w4 P a0 a1 a2 a3 a4 :=
  h.to hb.size fun i _ => ⟨hb.cell (p := ⟨P, i, none⟩) h.1, hb.frozen (p := ⟨P, i, none⟩) h.1⟩
theorem P5 {S : Addr → Prop} {w3 w4 : World} {P : Nat} {a0 a1 a2 a3 a4 : Int} (hK : KeptOf S w3 w4) (hS : ∀ i, i < 5 → ¬ S ⟨P, i, none⟩) (h : Pcells w3 P a0 a1 a2 a3 a4) : Pcells w4 P a0 a1 a2 a3 a4 :=
  h.to hK.1.size fun i hi => hK.2.2 ⟨P, i, none⟩ h.1 (hS i hi)
set_option maxRecDepth 100000 in
set_option maxHeartbeats 8000000 in
theorem cparse_no (s : ByteArray) (w : World) (hs : s.size ≤ 9223372036854775807) (hB : isB s 0 45 = false) :
    Calls Tryz.prog 40 #[.string s] w (PerPost (perF s.data.toList) w) := by
  obtain ⟨hsg, hsk⟩ := sg_no hB
  have C45 : Hid (∀ w0, ScanAt (w.heap.size + 1) s 0 w0 → Calls Tryz.prog 42 #[.pointer (some ⟨w.heap.size + 1, 0, none⟩), .int .u8 45] w0 fun e w' => e = .returned (.bool false) ∧ ScanAt (w.heap.size + 1) s 0 w' ∧ Only (w.heap.size + 1) w0 w') := Lib.hid fun w0 h => by
    have q := cis_any (w.heap.size + 1) s 0 45 w0 h (by omega)
    rw [hB, isK_no hB] at q
    exact q
  have HW2 : Hid (ScanAt (w.heap.size + 1) s 0 ((w.alloc (.cells #[.int .i64 0, .int .i64 0, .int .i64 0, .int .i64 0, .int .i64 0] 43)).alloc (.cells #[.string s, .int .i64 0] 93)) ∧ Five w.heap.size zero ((w.alloc (.cells #[.int .i64 0, .int .i64 0, .int .i64 0, .int .i64 0, .int .i64 0] 43)).alloc (.cells #[.string s, .int .i64 0] 93)) ∧ Below w.heap.size w ((w.alloc (.cells #[.int .i64 0, .int .i64 0, .int .i64 0, .int .i64 0, .int .i64 0] 43)).alloc (.cells #[.string s, .int .i64 0] 93))) := Lib.hid (by
    have q := ScanAt.new ((w.alloc (.cells #[.int .i64 0, .int .i64 0, .int .i64 0, .int .i64 0, .int .i64 0] 43))) s 0 93
    rw [World.size_alloc] at q
    exact ⟨q, (Five.new w _).call ((Below.refl _ _).alloc (Nat.le_refl _) _), ((Below.refl _ _).alloc (Nat.le_refl _) _).alloc (by simp) _⟩)
  have HSG := Lib.hid hsg
  have HSK := Lib.hid hsk
  have hk1 : 0 ≤ s.size := by have := isK_le (s := s) (k := 0) (c := 45) (by omega); rw [isK_no hB] at this; exact this
  clear hB hsg hsk
  rcases hP : isB s 0 80 with _ | _
  · have C80 : Hid (∀ w0, ScanAt (w.heap.size + 1) s 0 w0 → Calls Tryz.prog 42 #[.pointer (some ⟨w.heap.size + 1, 0, none⟩), .int .u8 80] w0 fun e w' => e = .returned (.bool false) ∧ ScanAt (w.heap.size + 1) s 0 w' ∧ Only (w.heap.size + 1) w0 w') := Lib.hid fun w0 h => by
      have q := cis_any (w.heap.size + 1) s 0 80 w0 h (by omega)
      rw [hP, isK_no hP] at q
      exact q
    have HE : Hid (perF s.data.toList = ⟨5, (0 : Nat), zero⟩) := Lib.hid (perF_no HSK.out hP)
    clear hP hk1
    go_enter Tryz.func40, Tryz.ntmps40
    go_wp2_with (first
      | (go_at_call 42; (with_reducible refine (C45.out _ HW2.out.1).mono ?_); rintro e w1 ⟨rfl, hS, hO⟩; have HS1 := Lib.hid hS; have HF1 := Lib.hid (HW2.out.2.1.only hO (by omega)); have HO1 := Lib.hid (hO.new HW2.out.2.2 (by omega)); have HL1 := Lib.hid hS.1; clear hS hO)
      | (go_at_call 42; (with_reducible refine (C80.out _ (HS1.out.alloc _)).mono ?_); rintro e w2 ⟨rfl, hS, hO⟩; have HS2 := Lib.hid hS; have HL2 := Lib.hid hS.1; have HF2 := Lib.hid ((HF1.out.call ((Below.refl _ _).alloc (Nat.le_refl _) _)).only hO (by omega)); have HP2 := Lib.hid ((Five.new w1 43).only hO (by have := HL1.out; omega)); have HO2 := Lib.hid (hO.new (HO1.out.alloc HO1.out.size _) (by omega)); clear hS hO))
    have p0 := (HP2.out.2 0 (by omega)).1
    simp only [zero] at p0
    have p1 := (HP2.out.2 1 (by omega)).1
    simp only [zero] at p1
    have p2 := (HP2.out.2 2 (by omega)).1
    simp only [zero] at p2
    have p3 := (HP2.out.2 3 (by omega)).1
    simp only [zero] at p3
    have p4 := (HP2.out.2 4 (by omega)).1
    simp only [zero] at p4
    have r0 := (HF2.out.2 0 (by omega)).1
    have rf0 := (HF2.out.2 0 (by omega)).2
    have r1 := (HF2.out.2 1 (by omega)).1
    have rf1 := (HF2.out.2 1 (by omega)).2
    have r2 := (HF2.out.2 2 (by omega)).1
    have rf2 := (HF2.out.2 2 (by omega)).2
    have r3 := (HF2.out.2 3 (by omega)).1
    have rf3 := (HF2.out.2 3 (by omega)).2
    have r4 := (HF2.out.2 4 (by omega)).1
    have rf4 := (HF2.out.2 4 (by omega)).2
    have C5 : Hid (Calls Tryz.prog 45 #[.pointer (some ⟨w.heap.size + 1, 0, none⟩)] w2.drew fun e w' => e = .returned (.iface 105 (.pointer (some ⟨w2.heap.size, 0, none⟩))) ∧ w' = w2.drew.alloc (.cells #[.int .i64 5, .int .i64 0] 107)) := Lib.hid (bad_at (w.heap.size + 1) s 0 w2.drew HS2.out)
    have hlt2 : w.heap.size < w2.heap.size := HF2.out.1
    have hlt1 : w1.heap.size < w2.heap.size := HP2.out.1
    go_region_with (go_at_call 45; (with_reducible refine C5.out.mono ?_); rintro e w3 ⟨rfl, rfl⟩)
    all_goals
      go_wp2_with fail
      have hq := set_five w2 w.heap.size (.int .i64 0) (.int .i64 0) (.int .i64 0) (.int .i64 0) (.int .i64 0) _ _ _ _ _ r0 r1 r2 r3 r4
      have HBW := below_set5 HO2.out (Nat.le_refl _) (.int .i64 0) (.int .i64 0) (.int .i64 0) (.int .i64 0) (.int .i64 0)
      obtain ⟨W5, hW5⟩ : ∃ x, (((((w2.setCell ⟨w.heap.size, 0, none⟩ (.int .i64 0)).setCell ⟨w.heap.size, 1, none⟩ (.int .i64 0)).setCell ⟨w.heap.size, 2, none⟩ (.int .i64 0)).setCell ⟨w.heap.size, 3, none⟩ (.int .i64 0)).setCell ⟨w.heap.size, 4, none⟩ (.int .i64 0)) = x := ⟨_, rfl⟩
      rw [hW5] at hq HBW ⊢
      have hz5 : W5.heap.size = w2.heap.size := by rw [← hW5]; simp [World.setCell]
      have hl5 : w.heap.size < W5.heap.size := by rw [hz5]; exact hlt2
      have HX := (AtBox.new W5 5 0).drewN 1
      have far : ∀ i, ((W5.alloc (.cells #[.int .i64 5, .int .i64 0] 107)).drew).cell? ⟨w.heap.size, i, none⟩ = W5.cell? ⟨w.heap.size, i, none⟩ := fun i => World.cell?_alloc_lt _ _ ⟨w.heap.size, i, none⟩ hl5
      rw [hz5] at HX
      exact bodyPost_ret (v := .tuple #[.agg #[.int .i64 0, .int .i64 0, .int .i64 0, .int .i64 0, .int .i64 0], .iface 105 (.pointer (some ⟨w2.heap.size, 0, none⟩))]) (by simp [results, Tryz.results40, go_sem, far, hq.1, hq.2.1, hq.2.2.1, hq.2.2.2.1, hq.2.2.2.2]) rfl ⟨(HBW.alloc HBW.size _).drew, .inr ⟨by rw [HE.out]; exact five_ne, _, rfl, by rw [HE.out]; exact HX.mono (Nat.le_of_lt hlt2)⟩⟩
  · have C80 : Hid (∀ w0, ScanAt (w.heap.size + 1) s 0 w0 → Calls Tryz.prog 42 #[.pointer (some ⟨w.heap.size + 1, 0, none⟩), .int .u8 80] w0 fun e w' => e = .returned (.bool true) ∧ ScanAt (w.heap.size + 1) s (0 + 1) w' ∧ Only (w.heap.size + 1) w0 w') := Lib.hid fun w0 h => by
      have q := cis_any (w.heap.size + 1) s 0 80 w0 h (by omega)
      rw [hP, isK_yes hP] at q
      exact q
    have HKL : Hid (0 + 1 ≤ s.size) := Lib.hid (isB_lt hP)
    have HE : Hid (perF s.data.toList = perT s.data.toList (unitsF s.data.toList ymwd 5 0 (0 + 1) zero false)) := Lib.hid (perF_yes HSK.out hP)
    have HUB := Lib.hid (unitsF_bd (l := s.data.toList) (us := ymwd) (f := 5) (nx := 0) (k := 0 + 1) (v := zero) (b := false) (fun _ => by simp [zero]))
    have CU : Hid (∀ (PB TB : Nat) (w0 : World), ScanAt (w.heap.size + 1) s (0 + 1) w0 → UnSt (w.heap.size + 1) TB 4 (fun j => (PB, j)) zero w0 → Calls Tryz.prog 76 #[.pointer (some ⟨w.heap.size + 1, 0, none⟩), .string ⟨#[89, 77, 87, 68]⟩, .slice (some ⟨TB, 0, none⟩) 4 4] w0 (UPost (w.heap.size + 1) TB 4 s (fun j => (PB, j)) (unitsF s.data.toList ymwd 5 0 (0 + 1) zero false) w0)) := Lib.hid fun PB TB w0 h hU => units_any (w.heap.size + 1) TB 4 4 s ⟨#[89, 77, 87, 68]⟩ (0 + 1) (fun j => (PB, j)) zero w0 h HKL.out hs rfl (by omega) hU
    obtain ⟨U, hU⟩ : ∃ U, unitsF s.data.toList ymwd 5 0 (0 + 1) zero false = U := ⟨_, rfl⟩
    rw [hU] at CU HE HUB
    clear hU hP hk1
    unfold UPost at CU
    by_cases hU0 : U.err = 0
    · replace CU : Hid (∀ (PB TB : Nat) (w0 : World), ScanAt (w.heap.size + 1) s (0 + 1) w0 → UnSt (w.heap.size + 1) TB 4 (fun j => (PB, j)) zero w0 → Calls Tryz.prog 76 #[.pointer (some ⟨w.heap.size + 1, 0, none⟩), .string ⟨#[89, 77, 87, 68]⟩, .slice (some ⟨TB, 0, none⟩) 4 4] w0 fun e w' => e = .returned (.tuple #[.bool U.some_, .nilIface]) ∧ KeptOf (UnS (w.heap.size + 1) 4 (fun j => (PB, j))) w0 w' ∧ ScanAt (w.heap.size + 1) s (U.at_ : Int) w' ∧ U.at_ ≤ s.size ∧ UnSt (w.heap.size + 1) TB 4 (fun j => (PB, j)) U.val w') := Lib.hid fun PB TB w0 h h2 => (CU.out PB TB w0 h h2).mono fun e w' ⟨h3, h4⟩ => by
        rcases h4 with ⟨-, h5, h6⟩ | ⟨h5, -⟩
        · exact ⟨h5, h3, h6⟩
        · exact absurd hU0 h5
      have HU0 := Lib.hid hU0
      clear hU0
      obtain ⟨K, hK⟩ : ∃ K, U.at_ = K := ⟨_, rfl⟩
      obtain ⟨sb, hsb⟩ : ∃ b, U.some_ = b := ⟨_, rfl⟩
      rw [hK, hsb] at CU
      obtain ⟨a0, ha0⟩ : ∃ x, U.val 0 = x := ⟨_, rfl⟩
      obtain ⟨a1, ha1⟩ : ∃ x, U.val 1 = x := ⟨_, rfl⟩
      obtain ⟨a2, ha2⟩ : ∃ x, U.val 2 = x := ⟨_, rfl⟩
      obtain ⟨a3, ha3⟩ : ∃ x, U.val 3 = x := ⟨_, rfl⟩
      have hb0 := HUB.out 0; rw [ha0] at hb0; obtain ⟨hl0, hg0⟩ := hb0
      have hb1 := HUB.out 1; rw [ha1] at hb1; obtain ⟨hl1, hg1⟩ := hb1
      have hb2 := HUB.out 2; rw [ha2] at hb2; obtain ⟨hl2, hg2⟩ := hb2
      have hb3 := HUB.out 3; rw [ha3] at hb3; obtain ⟨hl3, hg3⟩ := hb3
      have HV : Hid (U.val 0 = a0 ∧ U.val 1 = a1 ∧ U.val 2 = a2 ∧ U.val 3 = a3) := Lib.hid ⟨ha0, ha1, ha2, ha3⟩
      clear ha0 ha1 ha2 ha3
      have HSB := Lib.hid hsb; have HKK := Lib.hid hK; clear hsb hK
      rcases hT : isB s K 84 with _ | _
      · have C84 : Hid (∀ w0, ScanAt (w.heap.size + 1) s K w0 → Calls Tryz.prog 42 #[.pointer (some ⟨w.heap.size + 1, 0, none⟩), .int .u8 84] w0 fun e w' => e = .returned (.bool false) ∧ ScanAt (w.heap.size + 1) s K w' ∧ Only (w.heap.size + 1) w0 w') := Lib.hid fun w0 h => by
          have q := cis_any (w.heap.size + 1) s K 84 w0 h (by omega)
          rw [hT, isK_no hT] at q
          exact q
        replace HE : Hid (perF s.data.toList = perZ s.data.toList U.val zero sb K) := Lib.hid (by rw [HE.out, perT_no HU0.out (by rw [HKK.out]; exact hT), HSB.out, HKK.out])
        clear hT HSB
        have CB : Hid (∀ w0, ScanAt (w.heap.size + 1) s K w0 → Calls Tryz.prog 45 #[.pointer (some ⟨w.heap.size + 1, 0, none⟩)] w0 (BadPost w0 5 K)) := Lib.hid fun w0 h => bad_any (w.heap.size + 1) s K w0 h
        unfold BadPost at CB
        rcases sb with _ | _
        · have HE2 := Lib.hid (HE.out.trans (perZ_bad (.inl rfl)))
          go_enter Tryz.func40, Tryz.ntmps40
          go_wp2_with (first
            | (go_at_call 42; (with_reducible refine (C45.out _ HW2.out.1).mono ?_); rintro e w1 ⟨rfl, hS, hO⟩; have HS1 := Lib.hid hS; have HF1 := Lib.hid (HW2.out.2.1.only hO (by omega)); have HO1 := Lib.hid (hO.new HW2.out.2.2 (by omega)); have HL1 := Lib.hid hS.1; clear hS hO)
            | (go_at_call 42; (with_reducible refine (C80.out _ (HS1.out.alloc _)).mono ?_); rintro e w2 ⟨rfl, hS, hO⟩; have HS2 := Lib.hid hS; have HL2 := Lib.hid hS.1; have HF2 := Lib.hid ((HF1.out.call ((Below.refl _ _).alloc (Nat.le_refl _) _)).only hO (by omega)); have HP2 := Lib.hid ((Five.new w1 43).only hO (by have := HL1.out; omega)); have HO2 := Lib.hid (hO.new (HO1.out.alloc HO1.out.size _) (by omega)); clear hS hO)
            | (go_at_call 76; (with_reducible refine (CU.out w1.heap.size w2.heap.size _ (HS2.out.alloc _) (UnSt.four w2 (w.heap.size + 1) w1.heap.size zero HP2.out HL2.out (by have := HL1.out; omega) _)).mono ?_); rintro e w3 ⟨rfl, hK, hS, hKs, hUn⟩; have HS3 := Lib.hid hS; have HF3 := Lib.hid ((HF2.out.call ((Below.refl _ _).alloc (Nat.le_refl _) _)).kept hK (fun i _ => nf i _ _ _ _ (by omega) (fun j _ e => by have := congrArg Prod.fst e; have := HO1.out.size; have := HL1.out; simp at *; omega))); have HB3 := Lib.hid ((HO2.out.alloc HO2.out.size _).trans (hK.below (UnS.ge (by omega) (fun _ _ => HO1.out.size)) (by have := HO2.out.size; simp; omega))); have HP3 : Hid (Pcells w3 w1.heap.size a0 a1 a2 a3 0) := Lib.hid (P3 HP2.out hUn hK (by have := HL1.out; omega) HV.out.1 HV.out.2.1 HV.out.2.2.1 HV.out.2.2.2); clear hK hS hKs hUn)
            | (go_at_call 42; (with_reducible refine (C84.out _ HS3.out).mono ?_); rintro e w4 ⟨rfl, hS, hO⟩; have HS4 := Lib.hid hS; have HL4 := Lib.hid hS.1; have HF4 := Lib.hid (HF3.out.only hO (by omega)); have HB4 := Lib.hid (HB3.out.trans (hO.1.mono (by omega))); have HP4 := Lib.hid (P4 hO (by have := HL1.out; omega) HP3.out); obtain ⟨-, k0, k1, -⟩ := hS; clear hO)
            | (go_at_call 45; (with_reducible refine (CB.out _ HS4.out).mono ?_); rintro e wz ⟨pp, rfl, hX, hbb⟩; have HFz := Lib.hid (HF4.out.call hbb); have HXz := Lib.hid hX; have HBz := Lib.hid (thenB HB4.out hbb); clear hX hbb; have r0 := (HFz.out.2 0 (by omega)).1; have rf0 := (HFz.out.2 0 (by omega)).2; have r1 := (HFz.out.2 1 (by omega)).1; have rf1 := (HFz.out.2 1 (by omega)).2; have r2 := (HFz.out.2 2 (by omega)).1; have rf2 := (HFz.out.2 2 (by omega)).2; have r3 := (HFz.out.2 3 (by omega)).1; have rf3 := (HFz.out.2 3 (by omega)).2; have r4 := (HFz.out.2 4 (by omega)).1; have rf4 := (HFz.out.2 4 (by omega)).2))
          have hq := set_five wz w.heap.size (.int .i64 0) (.int .i64 0) (.int .i64 0) (.int .i64 0) (.int .i64 0) _ _ _ _ _ r0 r1 r2 r3 r4
          exact bodyPost_ret (v := .tuple #[.agg #[.int .i64 0, .int .i64 0, .int .i64 0, .int .i64 0, .int .i64 0], .iface 105 (.pointer (some ⟨pp, 0, none⟩))]) (by simp [results, Tryz.results40, go_sem, hq.1, hq.2.1, hq.2.2.1, hq.2.2.2.1, hq.2.2.2.2]) rfl ⟨below_set5 HBz.out (Nat.le_refl _) _ _ _ _ _, .inr ⟨by rw [HE2.out]; exact five_ne, _, rfl, by rw [HE2.out]; exact ((HXz.out.set5 HF4.out.1 _ _ _ _ _).mono HB4.out.size)⟩⟩
        · by_cases hlt : K < s.size
          · have HE2 := Lib.hid (HE.out.trans (perZ_bad (.inr hlt)))
            have hld : decide (K < s.size) = true := decide_eq_true hlt
            have hldi : decide ((K : Int) < (s.size : Int)) = true := decide_eq_true (by omega)
            go_enter Tryz.func40, Tryz.ntmps40
            go_wp2_with (first
              | (go_at_call 42; (with_reducible refine (C45.out _ HW2.out.1).mono ?_); rintro e w1 ⟨rfl, hS, hO⟩; have HS1 := Lib.hid hS; have HF1 := Lib.hid (HW2.out.2.1.only hO (by omega)); have HO1 := Lib.hid (hO.new HW2.out.2.2 (by omega)); have HL1 := Lib.hid hS.1; clear hS hO)
              | (go_at_call 42; (with_reducible refine (C80.out _ (HS1.out.alloc _)).mono ?_); rintro e w2 ⟨rfl, hS, hO⟩; have HS2 := Lib.hid hS; have HL2 := Lib.hid hS.1; have HF2 := Lib.hid ((HF1.out.call ((Below.refl _ _).alloc (Nat.le_refl _) _)).only hO (by omega)); have HP2 := Lib.hid ((Five.new w1 43).only hO (by have := HL1.out; omega)); have HO2 := Lib.hid (hO.new (HO1.out.alloc HO1.out.size _) (by omega)); clear hS hO)
              | (go_at_call 76; (with_reducible refine (CU.out w1.heap.size w2.heap.size _ (HS2.out.alloc _) (UnSt.four w2 (w.heap.size + 1) w1.heap.size zero HP2.out HL2.out (by have := HL1.out; omega) _)).mono ?_); rintro e w3 ⟨rfl, hK, hS, hKs, hUn⟩; have HS3 := Lib.hid hS; have HF3 := Lib.hid ((HF2.out.call ((Below.refl _ _).alloc (Nat.le_refl _) _)).kept hK (fun i _ => nf i _ _ _ _ (by omega) (fun j _ e => by have := congrArg Prod.fst e; have := HO1.out.size; have := HL1.out; simp at *; omega))); have HB3 := Lib.hid ((HO2.out.alloc HO2.out.size _).trans (hK.below (UnS.ge (by omega) (fun _ _ => HO1.out.size)) (by have := HO2.out.size; simp; omega))); have HP3 : Hid (Pcells w3 w1.heap.size a0 a1 a2 a3 0) := Lib.hid (P3 HP2.out hUn hK (by have := HL1.out; omega) HV.out.1 HV.out.2.1 HV.out.2.2.1 HV.out.2.2.2); clear hK hS hKs hUn)
              | (go_at_call 42; (with_reducible refine (C84.out _ HS3.out).mono ?_); rintro e w4 ⟨rfl, hS, hO⟩; have HS4 := Lib.hid hS; have HL4 := Lib.hid hS.1; have HF4 := Lib.hid (HF3.out.only hO (by omega)); have HB4 := Lib.hid (HB3.out.trans (hO.1.mono (by omega))); have HP4 := Lib.hid (P4 hO (by have := HL1.out; omega) HP3.out); obtain ⟨-, k0, k1, -⟩ := hS; clear hO)
              | (go_at_call 45; (with_reducible refine (CB.out _ HS4.out).mono ?_); rintro e wz ⟨pp, rfl, hX, hbb⟩; have HFz := Lib.hid (HF4.out.call hbb); have HXz := Lib.hid hX; have HBz := Lib.hid (thenB HB4.out hbb); clear hX hbb; have r0 := (HFz.out.2 0 (by omega)).1; have rf0 := (HFz.out.2 0 (by omega)).2; have r1 := (HFz.out.2 1 (by omega)).1; have rf1 := (HFz.out.2 1 (by omega)).2; have r2 := (HFz.out.2 2 (by omega)).1; have rf2 := (HFz.out.2 2 (by omega)).2; have r3 := (HFz.out.2 3 (by omega)).1; have rf3 := (HFz.out.2 3 (by omega)).2; have r4 := (HFz.out.2 4 (by omega)).1; have rf4 := (HFz.out.2 4 (by omega)).2))
            have hq := set_five wz w.heap.size (.int .i64 0) (.int .i64 0) (.int .i64 0) (.int .i64 0) (.int .i64 0) _ _ _ _ _ r0 r1 r2 r3 r4
            exact bodyPost_ret (v := .tuple #[.agg #[.int .i64 0, .int .i64 0, .int .i64 0, .int .i64 0, .int .i64 0], .iface 105 (.pointer (some ⟨pp, 0, none⟩))]) (by simp [results, Tryz.results40, go_sem, hq.1, hq.2.1, hq.2.2.1, hq.2.2.2.1, hq.2.2.2.2]) rfl ⟨below_set5 HBz.out (Nat.le_refl _) _ _ _ _ _, .inr ⟨by rw [HE2.out]; exact five_ne, _, rfl, by rw [HE2.out]; exact ((HXz.out.set5 HF4.out.1 _ _ _ _ _).mono HB4.out.size)⟩⟩
          · have HE2 := Lib.hid (perZ_ok (v := U.val) (t := zero) (b := true) rfl hlt)
            have hld : decide (K < s.size) = false := decide_eq_false hlt
            have hldi : decide ((K : Int) < (s.size : Int)) = false := decide_eq_false (by omega)
            go_enter Tryz.func40, Tryz.ntmps40
            go_wp2_with (first
              | (go_at_call 42; (with_reducible refine (C45.out _ HW2.out.1).mono ?_); rintro e w1 ⟨rfl, hS, hO⟩; have HS1 := Lib.hid hS; have HF1 := Lib.hid (HW2.out.2.1.only hO (by omega)); have HO1 := Lib.hid (hO.new HW2.out.2.2 (by omega)); have HL1 := Lib.hid hS.1; clear hS hO)
              | (go_at_call 42; (with_reducible refine (C80.out _ (HS1.out.alloc _)).mono ?_); rintro e w2 ⟨rfl, hS, hO⟩; have HS2 := Lib.hid hS; have HL2 := Lib.hid hS.1; have HF2 := Lib.hid ((HF1.out.call ((Below.refl _ _).alloc (Nat.le_refl _) _)).only hO (by omega)); have HP2 := Lib.hid ((Five.new w1 43).only hO (by have := HL1.out; omega)); have HO2 := Lib.hid (hO.new (HO1.out.alloc HO1.out.size _) (by omega)); clear hS hO)
              | (go_at_call 76; (with_reducible refine (CU.out w1.heap.size w2.heap.size _ (HS2.out.alloc _) (UnSt.four w2 (w.heap.size + 1) w1.heap.size zero HP2.out HL2.out (by have := HL1.out; omega) _)).mono ?_); rintro e w3 ⟨rfl, hK, hS, hKs, hUn⟩; have HS3 := Lib.hid hS; have HF3 := Lib.hid ((HF2.out.call ((Below.refl _ _).alloc (Nat.le_refl _) _)).kept hK (fun i _ => nf i _ _ _ _ (by omega) (fun j _ e => by have := congrArg Prod.fst e; have := HO1.out.size; have := HL1.out; simp at *; omega))); have HB3 := Lib.hid ((HO2.out.alloc HO2.out.size _).trans (hK.below (UnS.ge (by omega) (fun _ _ => HO1.out.size)) (by have := HO2.out.size; simp; omega))); have HP3 : Hid (Pcells w3 w1.heap.size a0 a1 a2 a3 0) := Lib.hid (P3 HP2.out hUn hK (by have := HL1.out; omega) HV.out.1 HV.out.2.1 HV.out.2.2.1 HV.out.2.2.2); clear hK hS hKs hUn)
              | (go_at_call 42; (with_reducible refine (C84.out _ HS3.out).mono ?_); rintro e w4 ⟨rfl, hS, hO⟩; have HS4 := Lib.hid hS; have HL4 := Lib.hid hS.1; have HF4 := Lib.hid (HF3.out.only hO (by omega)); have HB4 := Lib.hid (HB3.out.trans (hO.1.mono (by omega))); have HP4 := Lib.hid (P4 hO (by have := HL1.out; omega) HP3.out); obtain ⟨-, k0, k1, -⟩ := hS; clear hO; have p0 := HP4.out.2.1.1; have p1 := HP4.out.2.2.1.1; have p2 := HP4.out.2.2.2.1.1; have p3 := HP4.out.2.2.2.2.1.1; have p4 := HP4.out.2.2.2.2.2.1; have r0 := (HF4.out.2 0 (by omega)).1; have rf0 := (HF4.out.2 0 (by omega)).2; have r1 := (HF4.out.2 1 (by omega)).1; have rf1 := (HF4.out.2 1 (by omega)).2; have r2 := (HF4.out.2 2 (by omega)).1; have rf2 := (HF4.out.2 2 (by omega)).2; have r3 := (HF4.out.2 3 (by omega)).1; have rf3 := (HF4.out.2 3 (by omega)).2; have r4 := (HF4.out.2 4 (by omega)).1; have rf4 := (HF4.out.2 4 (by omega)).2))
            have hq := set_five w4 w.heap.size (.int .i64 (a0)) (.int .i64 (a1)) (.int .i64 (a2)) (.int .i64 (a3)) (.int .i64 (0)) _ _ _ _ _ r0 r1 r2 r3 r4
            exact bodyPost_ret (v := .tuple #[.agg #[.int .i64 (a0), .int .i64 (a1), .int .i64 (a2), .int .i64 (a3), .int .i64 (0)], .nilIface]) (by simp [results, Tryz.results40, go_sem, hq.1, hq.2.1, hq.2.2.1, hq.2.2.2.1, hq.2.2.2.2]) rfl ⟨below_set5 HB4.out (Nat.le_refl _) _ _ _ _ _, .inl ⟨by rw [HE.out]; exact HE2.out.1, by unfold agg5; rw [HE.out, HE2.out.2.1, HE2.out.2.2.1, HE2.out.2.2.2.1, HE2.out.2.2.2.2.1, HE2.out.2.2.2.2.2.1, HSG.out, HV.out.1, HV.out.2.1, HV.out.2.2.1, HV.out.2.2.2]; simp [zero]⟩⟩
      · have C84 : Hid (∀ w0, ScanAt (w.heap.size + 1) s K w0 → Calls Tryz.prog 42 #[.pointer (some ⟨w.heap.size + 1, 0, none⟩), .int .u8 84] w0 fun e w' => e = .returned (.bool true) ∧ ScanAt (w.heap.size + 1) s ((K : Int) + 1) w' ∧ Only (w.heap.size + 1) w0 w') := Lib.hid fun w0 h => by
          have q := cis_any (w.heap.size + 1) s K 84 w0 h (by omega)
          rw [hT, isK_yes hT] at q
          exact q
        have HKT : Hid (K + 1 ≤ s.size) := Lib.hid (isB_lt hT)
        replace HE := Lib.hid (HE.out.trans (perT_yes HU0.out (by rw [HKK.out]; exact hT) rfl))
        rw [HKK.out] at HE
        have HXB := Lib.hid (unitsF_bd (l := s.data.toList) (us := hms) (f := 4) (nx := 0) (k := K + 1) (v := zero) (b := false) (fun _ => by simp [zero]))
        have CX : Hid (∀ (b0 : Nat) (w0 : World), ScanAt (w.heap.size + 1) s ((K : Int) + 1) w0 → UnSt (w.heap.size + 1) (b0 + 3) 3 (fun j => (b0 + j, 0)) zero w0 → Calls Tryz.prog 76 #[.pointer (some ⟨w.heap.size + 1, 0, none⟩), .string ⟨#[72, 77, 83]⟩, .slice (some ⟨b0 + 3, 0, none⟩) 3 3] w0 (UPost (w.heap.size + 1) (b0 + 3) 3 s (fun j => (b0 + j, 0)) (unitsF s.data.toList hms 4 0 (K + 1) zero false) w0)) := Lib.hid fun b0 w0 h hU => units_any (w.heap.size + 1) (b0 + 3) 3 3 s ⟨#[72, 77, 83]⟩ (K + 1) (fun j => (b0 + j, 0)) zero w0 h HKT.out hs rfl (by omega) hU
        obtain ⟨X, hX⟩ : ∃ X, unitsF s.data.toList hms 4 0 (K + 1) zero false = X := ⟨_, rfl⟩
        rw [hX] at CX HE HXB
        clear hX hT
        unfold UPost at CX
        by_cases hX0 : X.err = 0
        · replace CX : Hid (∀ (b0 : Nat) (w0 : World), ScanAt (w.heap.size + 1) s ((K : Int) + 1) w0 → UnSt (w.heap.size + 1) (b0 + 3) 3 (fun j => (b0 + j, 0)) zero w0 → Calls Tryz.prog 76 #[.pointer (some ⟨w.heap.size + 1, 0, none⟩), .string ⟨#[72, 77, 83]⟩, .slice (some ⟨b0 + 3, 0, none⟩) 3 3] w0 fun e w' => e = .returned (.tuple #[.bool X.some_, .nilIface]) ∧ KeptOf (UnS (w.heap.size + 1) 3 (fun j => (b0 + j, 0))) w0 w' ∧ ScanAt (w.heap.size + 1) s (X.at_ : Int) w' ∧ X.at_ ≤ s.size ∧ UnSt (w.heap.size + 1) (b0 + 3) 3 (fun j => (b0 + j, 0)) X.val w') := Lib.hid fun b0 w0 h h2 => (CX.out b0 w0 h h2).mono fun e w' ⟨h3, h4⟩ => by
            rcases h4 with ⟨-, h5, h6⟩ | ⟨h5, -⟩
            · exact ⟨h5, h3, h6⟩
            · exact absurd hX0 h5
          rw [if_pos hX0] at HE
          clear hX0
          obtain ⟨K5, hK⟩ : ∃ K, X.at_ = K := ⟨_, rfl⟩
          obtain ⟨sx, hsb⟩ : ∃ b, X.some_ = b := ⟨_, rfl⟩
          rw [hK, hsb] at CX HE
          clear hK hsb
          obtain ⟨x0, ha0⟩ : ∃ x, X.val 0 = x := ⟨_, rfl⟩
          obtain ⟨x1, ha1⟩ : ∃ x, X.val 1 = x := ⟨_, rfl⟩
          obtain ⟨x2, ha2⟩ : ∃ x, X.val 2 = x := ⟨_, rfl⟩
          have hb0 := HXB.out 0; rw [ha0] at hb0; obtain ⟨hm0, hn0⟩ := hb0
          have hb1 := HXB.out 1; rw [ha1] at hb1; obtain ⟨hm1, hn1⟩ := hb1
          have hb2 := HXB.out 2; rw [ha2] at hb2; obtain ⟨hm2, hn2⟩ := hb2
          have HVX : Hid (X.val 0 = x0 ∧ X.val 1 = x1 ∧ X.val 2 = x2) := Lib.hid ⟨ha0, ha1, ha2⟩
          clear ha0 ha1 ha2
          have CB : Hid (∀ w0, ScanAt (w.heap.size + 1) s K5 w0 → Calls Tryz.prog 45 #[.pointer (some ⟨w.heap.size + 1, 0, none⟩)] w0 (BadPost w0 5 K5)) := Lib.hid fun w0 h => bad_any (w.heap.size + 1) s K5 w0 h
          unfold BadPost at CB
          rcases sx with _ | _
          · have HE2 := Lib.hid (HE.out.trans (perZ_bad (.inl rfl)))
            go_enter Tryz.func40, Tryz.ntmps40
            go_wp2_with (first
              | (go_at_call 42; (with_reducible refine (C45.out _ HW2.out.1).mono ?_); rintro e w1 ⟨rfl, hS, hO⟩; have HS1 := Lib.hid hS; have HF1 := Lib.hid (HW2.out.2.1.only hO (by omega)); have HO1 := Lib.hid (hO.new HW2.out.2.2 (by omega)); have HL1 := Lib.hid hS.1; clear hS hO)
              | (go_at_call 42; (with_reducible refine (C80.out _ (HS1.out.alloc _)).mono ?_); rintro e w2 ⟨rfl, hS, hO⟩; have HS2 := Lib.hid hS; have HL2 := Lib.hid hS.1; have HF2 := Lib.hid ((HF1.out.call ((Below.refl _ _).alloc (Nat.le_refl _) _)).only hO (by omega)); have HP2 := Lib.hid ((Five.new w1 43).only hO (by have := HL1.out; omega)); have HO2 := Lib.hid (hO.new (HO1.out.alloc HO1.out.size _) (by omega)); clear hS hO)
              | (go_at_call 76; (with_reducible refine (CU.out w1.heap.size w2.heap.size _ (HS2.out.alloc _) (UnSt.four w2 (w.heap.size + 1) w1.heap.size zero HP2.out HL2.out (by have := HL1.out; omega) _)).mono ?_); rintro e w3 ⟨rfl, hK, hS, hKs, hUn⟩; have HS3 := Lib.hid hS; have HF3 := Lib.hid ((HF2.out.call ((Below.refl _ _).alloc (Nat.le_refl _) _)).kept hK (fun i _ => nf i _ _ _ _ (by omega) (fun j _ e => by have := congrArg Prod.fst e; have := HO1.out.size; have := HL1.out; simp at *; omega))); have HB3 := Lib.hid ((HO2.out.alloc HO2.out.size _).trans (hK.below (UnS.ge (by omega) (fun _ _ => HO1.out.size)) (by have := HO2.out.size; simp; omega))); have HP3 : Hid (Pcells w3 w1.heap.size a0 a1 a2 a3 0) := Lib.hid (P3 HP2.out hUn hK (by have := HL1.out; omega) HV.out.1 HV.out.2.1 HV.out.2.2.1 HV.out.2.2.2); clear hK hS hKs hUn)
              | (go_at_call 42; (with_reducible refine (C84.out _ HS3.out).mono ?_); rintro e w4 ⟨rfl, hS, hO⟩; have HS4 := Lib.hid hS; have HL4 := Lib.hid hS.1; have HF4 := Lib.hid (HF3.out.only hO (by omega)); have HB4 := Lib.hid (HB3.out.trans (hO.1.mono (by omega))); have HP4 := Lib.hid (P4 hO (by have := HL1.out; omega) HP3.out); obtain ⟨-, k0, k1, -⟩ := hS; clear hO)
              | (go_at_call 76; (with_reducible refine (CX.out w4.heap.size _ (((((HS4.out.alloc _).alloc _).alloc _).alloc _)) (UnSt.three w4 (w.heap.size + 1) HL4.out _ _)).mono ?_); rintro e w5 ⟨rfl, hK, hS, hKs, hUn⟩; have HS5 := Lib.hid hS; have HF5 := Lib.hid ((HF4.out.call (((((Below.refl _ w4).alloc (Nat.le_refl _) _).alloc (by simp) _).alloc (by simp; omega) _).alloc (by simp; omega) _)).kept hK (fun i _ => nf i _ _ _ _ (by omega) (fun j _ e => by have := congrArg Prod.fst e; have := HF4.out.1; simp at *; omega))); have HB5 := Lib.hid ((thenB HB4.out (((((Below.refl _ w4).alloc (Nat.le_refl _) _).alloc (by simp) _).alloc (by simp; omega) _).alloc (by simp; omega) _)).trans (hK.below (UnS.ge (by omega) (fun j _ => by have := HB4.out.size; show w.heap.size ≤ w4.heap.size + j; omega)) (by have := HB4.out.size; simp; omega))); have hp5 := P5 hK (show ∀ i, i < 5 → ¬ UnS (w.heap.size + 1) 3 (fun j => (w4.heap.size + j, 0)) ⟨w1.heap.size, i, none⟩ from fun i _ => nf i _ _ _ _ (by have := HL1.out; omega) (fun j _ e => by have := congrArg Prod.fst e; have := HP4.out.1; simp at *; omega)) (Pcells.call HP4.out (((((Below.refl _ w4).alloc (Nat.le_refl _) _).alloc (by simp) _).alloc (by simp; omega) _).alloc (by simp; omega) _)); have HP5 := Lib.hid hp5; have y0 : w5.cell? ⟨w4.heap.size, 0, none⟩ = some (.int .i64 x0) := ((hUn.2.2.2 0 (by omega)).2.2.2.2.1).trans (congrArg (fun z => some (Value.int .i64 z)) HVX.out.1); have y1 : w5.cell? ⟨w4.heap.size + 1, 0, none⟩ = some (.int .i64 x1) := ((hUn.2.2.2 1 (by omega)).2.2.2.2.1).trans (congrArg (fun z => some (Value.int .i64 z)) HVX.out.2.1); have y2 : w5.cell? ⟨w4.heap.size + 1 + 1, 0, none⟩ = some (.int .i64 x2) := ((hUn.2.2.2 2 (by omega)).2.2.2.2.1).trans (congrArg (fun z => some (Value.int .i64 z)) HVX.out.2.2); have z4 := hp5.2.2.2.2.2.1; have zf4 := hp5.2.2.2.2.2.2; obtain ⟨-, k0, k1, -⟩ := hS; have hne := (show w1.heap.size ≠ w.heap.size + 1 by have := HL1.out; omega); have HS6 := Lib.hid (HS5.out.set2 ⟨w1.heap.size, 4, none⟩ hne (.int .i64 ((x0 * 60 + x1) * 60 + x2))); have hnr := (show w1.heap.size ≠ w.heap.size by have := HO1.out.size; have := HL1.out; omega); have HF6 := Lib.hid (HF5.out.far (p := ⟨w1.heap.size, 4, none⟩) hnr (.int .i64 ((x0 * 60 + x1) * 60 + x2))); have HB6 := Lib.hid (HB5.out.setCell (p := ⟨w1.heap.size, 4, none⟩) HO1.out.size (.int .i64 ((x0 * 60 + x1) * 60 + x2))); clear hK hKs hUn hp5)
              | (go_at_call 45; (with_reducible refine (CB.out _ HS6.out).mono ?_); rintro e wz ⟨pp, rfl, hX, hbb⟩; have HFz := Lib.hid (HF6.out.call hbb); have HXz := Lib.hid hX; have HBz := Lib.hid (thenB HB6.out hbb); clear hX hbb; have r0 := (HFz.out.2 0 (by omega)).1; have rf0 := (HFz.out.2 0 (by omega)).2; have r1 := (HFz.out.2 1 (by omega)).1; have rf1 := (HFz.out.2 1 (by omega)).2; have r2 := (HFz.out.2 2 (by omega)).1; have rf2 := (HFz.out.2 2 (by omega)).2; have r3 := (HFz.out.2 3 (by omega)).1; have rf3 := (HFz.out.2 3 (by omega)).2; have r4 := (HFz.out.2 4 (by omega)).1; have rf4 := (HFz.out.2 4 (by omega)).2))
            have hq := set_five wz w.heap.size (.int .i64 0) (.int .i64 0) (.int .i64 0) (.int .i64 0) (.int .i64 0) _ _ _ _ _ r0 r1 r2 r3 r4
            exact bodyPost_ret (v := .tuple #[.agg #[.int .i64 0, .int .i64 0, .int .i64 0, .int .i64 0, .int .i64 0], .iface 105 (.pointer (some ⟨pp, 0, none⟩))]) (by simp [results, Tryz.results40, go_sem, hq.1, hq.2.1, hq.2.2.1, hq.2.2.2.1, hq.2.2.2.2]) rfl ⟨below_set5 HBz.out (Nat.le_refl _) _ _ _ _ _, .inr ⟨by rw [HE2.out]; exact five_ne, _, rfl, by rw [HE2.out]; exact ((HXz.out.set5 HF6.out.1 _ _ _ _ _).mono HB6.out.size)⟩⟩
          · by_cases hlt : K5 < s.size
            · have HE2 := Lib.hid (HE.out.trans (perZ_bad (.inr hlt)))
              have hld : decide (K5 < s.size) = true := decide_eq_true hlt
              have hldi : decide ((K5 : Int) < (s.size : Int)) = true := decide_eq_true (by omega)
              go_enter Tryz.func40, Tryz.ntmps40
              go_wp2_with (first
                | (go_at_call 42; (with_reducible refine (C45.out _ HW2.out.1).mono ?_); rintro e w1 ⟨rfl, hS, hO⟩; have HS1 := Lib.hid hS; have HF1 := Lib.hid (HW2.out.2.1.only hO (by omega)); have HO1 := Lib.hid (hO.new HW2.out.2.2 (by omega)); have HL1 := Lib.hid hS.1; clear hS hO)
                | (go_at_call 42; (with_reducible refine (C80.out _ (HS1.out.alloc _)).mono ?_); rintro e w2 ⟨rfl, hS, hO⟩; have HS2 := Lib.hid hS; have HL2 := Lib.hid hS.1; have HF2 := Lib.hid ((HF1.out.call ((Below.refl _ _).alloc (Nat.le_refl _) _)).only hO (by omega)); have HP2 := Lib.hid ((Five.new w1 43).only hO (by have := HL1.out; omega)); have HO2 := Lib.hid (hO.new (HO1.out.alloc HO1.out.size _) (by omega)); clear hS hO)
                | (go_at_call 76; (with_reducible refine (CU.out w1.heap.size w2.heap.size _ (HS2.out.alloc _) (UnSt.four w2 (w.heap.size + 1) w1.heap.size zero HP2.out HL2.out (by have := HL1.out; omega) _)).mono ?_); rintro e w3 ⟨rfl, hK, hS, hKs, hUn⟩; have HS3 := Lib.hid hS; have HF3 := Lib.hid ((HF2.out.call ((Below.refl _ _).alloc (Nat.le_refl _) _)).kept hK (fun i _ => nf i _ _ _ _ (by omega) (fun j _ e => by have := congrArg Prod.fst e; have := HO1.out.size; have := HL1.out; simp at *; omega))); have HB3 := Lib.hid ((HO2.out.alloc HO2.out.size _).trans (hK.below (UnS.ge (by omega) (fun _ _ => HO1.out.size)) (by have := HO2.out.size; simp; omega))); have HP3 : Hid (Pcells w3 w1.heap.size a0 a1 a2 a3 0) := Lib.hid (P3 HP2.out hUn hK (by have := HL1.out; omega) HV.out.1 HV.out.2.1 HV.out.2.2.1 HV.out.2.2.2); clear hK hS hKs hUn)
                | (go_at_call 42; (with_reducible refine (C84.out _ HS3.out).mono ?_); rintro e w4 ⟨rfl, hS, hO⟩; have HS4 := Lib.hid hS; have HL4 := Lib.hid hS.1; have HF4 := Lib.hid (HF3.out.only hO (by omega)); have HB4 := Lib.hid (HB3.out.trans (hO.1.mono (by omega))); have HP4 := Lib.hid (P4 hO (by have := HL1.out; omega) HP3.out); obtain ⟨-, k0, k1, -⟩ := hS; clear hO)
                | (go_at_call 76; (with_reducible refine (CX.out w4.heap.size _ (((((HS4.out.alloc _).alloc _).alloc _).alloc _)) (UnSt.three w4 (w.heap.size + 1) HL4.out _ _)).mono ?_); rintro e w5 ⟨rfl, hK, hS, hKs, hUn⟩; have HS5 := Lib.hid hS; have HF5 := Lib.hid ((HF4.out.call (((((Below.refl _ w4).alloc (Nat.le_refl _) _).alloc (by simp) _).alloc (by simp; omega) _).alloc (by simp; omega) _)).kept hK (fun i _ => nf i _ _ _ _ (by omega) (fun j _ e => by have := congrArg Prod.fst e; have := HF4.out.1; simp at *; omega))); have HB5 := Lib.hid ((thenB HB4.out (((((Below.refl _ w4).alloc (Nat.le_refl _) _).alloc (by simp) _).alloc (by simp; omega) _).alloc (by simp; omega) _)).trans (hK.below (UnS.ge (by omega) (fun j _ => by have := HB4.out.size; show w.heap.size ≤ w4.heap.size + j; omega)) (by have := HB4.out.size; simp; omega))); have hp5 := P5 hK (show ∀ i, i < 5 → ¬ UnS (w.heap.size + 1) 3 (fun j => (w4.heap.size + j, 0)) ⟨w1.heap.size, i, none⟩ from fun i _ => nf i _ _ _ _ (by have := HL1.out; omega) (fun j _ e => by have := congrArg Prod.fst e; have := HP4.out.1; simp at *; omega)) (Pcells.call HP4.out (((((Below.refl _ w4).alloc (Nat.le_refl _) _).alloc (by simp) _).alloc (by simp; omega) _).alloc (by simp; omega) _)); have HP5 := Lib.hid hp5; have y0 : w5.cell? ⟨w4.heap.size, 0, none⟩ = some (.int .i64 x0) := ((hUn.2.2.2 0 (by omega)).2.2.2.2.1).trans (congrArg (fun z => some (Value.int .i64 z)) HVX.out.1); have y1 : w5.cell? ⟨w4.heap.size + 1, 0, none⟩ = some (.int .i64 x1) := ((hUn.2.2.2 1 (by omega)).2.2.2.2.1).trans (congrArg (fun z => some (Value.int .i64 z)) HVX.out.2.1); have y2 : w5.cell? ⟨w4.heap.size + 1 + 1, 0, none⟩ = some (.int .i64 x2) := ((hUn.2.2.2 2 (by omega)).2.2.2.2.1).trans (congrArg (fun z => some (Value.int .i64 z)) HVX.out.2.2); have z4 := hp5.2.2.2.2.2.1; have zf4 := hp5.2.2.2.2.2.2; obtain ⟨-, k0, k1, -⟩ := hS; have hne := (show w1.heap.size ≠ w.heap.size + 1 by have := HL1.out; omega); have HS6 := Lib.hid (HS5.out.set2 ⟨w1.heap.size, 4, none⟩ hne (.int .i64 ((x0 * 60 + x1) * 60 + x2))); have hnr := (show w1.heap.size ≠ w.heap.size by have := HO1.out.size; have := HL1.out; omega); have HF6 := Lib.hid (HF5.out.far (p := ⟨w1.heap.size, 4, none⟩) hnr (.int .i64 ((x0 * 60 + x1) * 60 + x2))); have HB6 := Lib.hid (HB5.out.setCell (p := ⟨w1.heap.size, 4, none⟩) HO1.out.size (.int .i64 ((x0 * 60 + x1) * 60 + x2))); clear hK hKs hUn hp5)
                | (go_at_call 45; (with_reducible refine (CB.out _ HS6.out).mono ?_); rintro e wz ⟨pp, rfl, hX, hbb⟩; have HFz := Lib.hid (HF6.out.call hbb); have HXz := Lib.hid hX; have HBz := Lib.hid (thenB HB6.out hbb); clear hX hbb; have r0 := (HFz.out.2 0 (by omega)).1; have rf0 := (HFz.out.2 0 (by omega)).2; have r1 := (HFz.out.2 1 (by omega)).1; have rf1 := (HFz.out.2 1 (by omega)).2; have r2 := (HFz.out.2 2 (by omega)).1; have rf2 := (HFz.out.2 2 (by omega)).2; have r3 := (HFz.out.2 3 (by omega)).1; have rf3 := (HFz.out.2 3 (by omega)).2; have r4 := (HFz.out.2 4 (by omega)).1; have rf4 := (HFz.out.2 4 (by omega)).2))
              have hq := set_five wz w.heap.size (.int .i64 0) (.int .i64 0) (.int .i64 0) (.int .i64 0) (.int .i64 0) _ _ _ _ _ r0 r1 r2 r3 r4
              exact bodyPost_ret (v := .tuple #[.agg #[.int .i64 0, .int .i64 0, .int .i64 0, .int .i64 0, .int .i64 0], .iface 105 (.pointer (some ⟨pp, 0, none⟩))]) (by simp [results, Tryz.results40, go_sem, hq.1, hq.2.1, hq.2.2.1, hq.2.2.2.1, hq.2.2.2.2]) rfl ⟨below_set5 HBz.out (Nat.le_refl _) _ _ _ _ _, .inr ⟨by rw [HE2.out]; exact five_ne, _, rfl, by rw [HE2.out]; exact ((HXz.out.set5 HF6.out.1 _ _ _ _ _).mono HB6.out.size)⟩⟩
            · have HE2 := Lib.hid (perZ_ok (v := U.val) (t := X.val) (b := true) rfl hlt)
              have hld : decide (K5 < s.size) = false := decide_eq_false hlt
              have hldi : decide ((K5 : Int) < (s.size : Int)) = false := decide_eq_false (by omega)
              go_enter Tryz.func40, Tryz.ntmps40
              go_wp2_with (first
                | (go_at_call 42; (with_reducible refine (C45.out _ HW2.out.1).mono ?_); rintro e w1 ⟨rfl, hS, hO⟩; have HS1 := Lib.hid hS; have HF1 := Lib.hid (HW2.out.2.1.only hO (by omega)); have HO1 := Lib.hid (hO.new HW2.out.2.2 (by omega)); have HL1 := Lib.hid hS.1; clear hS hO)
                | (go_at_call 42; (with_reducible refine (C80.out _ (HS1.out.alloc _)).mono ?_); rintro e w2 ⟨rfl, hS, hO⟩; have HS2 := Lib.hid hS; have HL2 := Lib.hid hS.1; have HF2 := Lib.hid ((HF1.out.call ((Below.refl _ _).alloc (Nat.le_refl _) _)).only hO (by omega)); have HP2 := Lib.hid ((Five.new w1 43).only hO (by have := HL1.out; omega)); have HO2 := Lib.hid (hO.new (HO1.out.alloc HO1.out.size _) (by omega)); clear hS hO)
                | (go_at_call 76; (with_reducible refine (CU.out w1.heap.size w2.heap.size _ (HS2.out.alloc _) (UnSt.four w2 (w.heap.size + 1) w1.heap.size zero HP2.out HL2.out (by have := HL1.out; omega) _)).mono ?_); rintro e w3 ⟨rfl, hK, hS, hKs, hUn⟩; have HS3 := Lib.hid hS; have HF3 := Lib.hid ((HF2.out.call ((Below.refl _ _).alloc (Nat.le_refl _) _)).kept hK (fun i _ => nf i _ _ _ _ (by omega) (fun j _ e => by have := congrArg Prod.fst e; have := HO1.out.size; have := HL1.out; simp at *; omega))); have HB3 := Lib.hid ((HO2.out.alloc HO2.out.size _).trans (hK.below (UnS.ge (by omega) (fun _ _ => HO1.out.size)) (by have := HO2.out.size; simp; omega))); have HP3 : Hid (Pcells w3 w1.heap.size a0 a1 a2 a3 0) := Lib.hid (P3 HP2.out hUn hK (by have := HL1.out; omega) HV.out.1 HV.out.2.1 HV.out.2.2.1 HV.out.2.2.2); clear hK hS hKs hUn)
                | (go_at_call 42; (with_reducible refine (C84.out _ HS3.out).mono ?_); rintro e w4 ⟨rfl, hS, hO⟩; have HS4 := Lib.hid hS; have HL4 := Lib.hid hS.1; have HF4 := Lib.hid (HF3.out.only hO (by omega)); have HB4 := Lib.hid (HB3.out.trans (hO.1.mono (by omega))); have HP4 := Lib.hid (P4 hO (by have := HL1.out; omega) HP3.out); obtain ⟨-, k0, k1, -⟩ := hS; clear hO)
                | (go_at_call 76; (with_reducible refine (CX.out w4.heap.size _ (((((HS4.out.alloc _).alloc _).alloc _).alloc _)) (UnSt.three w4 (w.heap.size + 1) HL4.out _ _)).mono ?_); rintro e w5 ⟨rfl, hK, hS, hKs, hUn⟩; have HS5 := Lib.hid hS; have HF5 := Lib.hid ((HF4.out.call (((((Below.refl _ w4).alloc (Nat.le_refl _) _).alloc (by simp) _).alloc (by simp; omega) _).alloc (by simp; omega) _)).kept hK (fun i _ => nf i _ _ _ _ (by omega) (fun j _ e => by have := congrArg Prod.fst e; have := HF4.out.1; simp at *; omega))); have HB5 := Lib.hid ((thenB HB4.out (((((Below.refl _ w4).alloc (Nat.le_refl _) _).alloc (by simp) _).alloc (by simp; omega) _).alloc (by simp; omega) _)).trans (hK.below (UnS.ge (by omega) (fun j _ => by have := HB4.out.size; show w.heap.size ≤ w4.heap.size + j; omega)) (by have := HB4.out.size; simp; omega))); have hp5 := P5 hK (show ∀ i, i < 5 → ¬ UnS (w.heap.size + 1) 3 (fun j => (w4.heap.size + j, 0)) ⟨w1.heap.size, i, none⟩ from fun i _ => nf i _ _ _ _ (by have := HL1.out; omega) (fun j _ e => by have := congrArg Prod.fst e; have := HP4.out.1; simp at *; omega)) (Pcells.call HP4.out (((((Below.refl _ w4).alloc (Nat.le_refl _) _).alloc (by simp) _).alloc (by simp; omega) _).alloc (by simp; omega) _)); have HP5 := Lib.hid hp5; have y0 : w5.cell? ⟨w4.heap.size, 0, none⟩ = some (.int .i64 x0) := ((hUn.2.2.2 0 (by omega)).2.2.2.2.1).trans (congrArg (fun z => some (Value.int .i64 z)) HVX.out.1); have y1 : w5.cell? ⟨w4.heap.size + 1, 0, none⟩ = some (.int .i64 x1) := ((hUn.2.2.2 1 (by omega)).2.2.2.2.1).trans (congrArg (fun z => some (Value.int .i64 z)) HVX.out.2.1); have y2 : w5.cell? ⟨w4.heap.size + 1 + 1, 0, none⟩ = some (.int .i64 x2) := ((hUn.2.2.2 2 (by omega)).2.2.2.2.1).trans (congrArg (fun z => some (Value.int .i64 z)) HVX.out.2.2); have z4 := hp5.2.2.2.2.2.1; have zf4 := hp5.2.2.2.2.2.2; obtain ⟨-, k0, k1, -⟩ := hS; have hne := (show w1.heap.size ≠ w.heap.size + 1 by have := HL1.out; omega); have HS6 := Lib.hid (HS5.out.set2 ⟨w1.heap.size, 4, none⟩ hne (.int .i64 ((x0 * 60 + x1) * 60 + x2))); have hnr := (show w1.heap.size ≠ w.heap.size by have := HO1.out.size; have := HL1.out; omega); have HF6 := Lib.hid (HF5.out.far (p := ⟨w1.heap.size, 4, none⟩) hnr (.int .i64 ((x0 * 60 + x1) * 60 + x2))); have HB6 := Lib.hid (HB5.out.setCell (p := ⟨w1.heap.size, 4, none⟩) HO1.out.size (.int .i64 ((x0 * 60 + x1) * 60 + x2))); clear hK hKs hUn hp5; have p0 := HP5.out.2.1.1; have p1 := HP5.out.2.2.1.1; have p2 := HP5.out.2.2.2.1.1; have p3 := HP5.out.2.2.2.2.1.1; have r0 := (HF5.out.2 0 (by omega)).1; have rf0 := (HF5.out.2 0 (by omega)).2; have r1 := (HF5.out.2 1 (by omega)).1; have rf1 := (HF5.out.2 1 (by omega)).2; have r2 := (HF5.out.2 2 (by omega)).1; have rf2 := (HF5.out.2 2 (by omega)).2; have r3 := (HF5.out.2 3 (by omega)).1; have rf3 := (HF5.out.2 3 (by omega)).2; have r4 := (HF5.out.2 4 (by omega)).1; have rf4 := (HF5.out.2 4 (by omega)).2; have q0 := (HF6.out.2 0 (by omega)).1; have qf0 := (HF6.out.2 0 (by omega)).2; have q1 := (HF6.out.2 1 (by omega)).1; have qf1 := (HF6.out.2 1 (by omega)).2; have q2 := (HF6.out.2 2 (by omega)).1; have qf2 := (HF6.out.2 2 (by omega)).2; have q3 := (HF6.out.2 3 (by omega)).1; have qf3 := (HF6.out.2 3 (by omega)).2; have q4 := (HF6.out.2 4 (by omega)).1; have qf4 := (HF6.out.2 4 (by omega)).2))
              have hq := set_five (w5.setCell ⟨w1.heap.size, 4, none⟩ (.int .i64 ((x0 * 60 + x1) * 60 + x2))) w.heap.size (.int .i64 (a0)) (.int .i64 (a1)) (.int .i64 (a2)) (.int .i64 (a3)) (.int .i64 ((x0 * 60 + x1) * 60 + x2)) _ _ _ _ _ q0 q1 q2 q3 q4
              exact bodyPost_ret (v := .tuple #[.agg #[.int .i64 (a0), .int .i64 (a1), .int .i64 (a2), .int .i64 (a3), .int .i64 ((x0 * 60 + x1) * 60 + x2)], .nilIface]) (by simp [results, Tryz.results40, go_sem, hq.1, hq.2.1, hq.2.2.1, hq.2.2.2.1, hq.2.2.2.2]) rfl ⟨below_set5 HB6.out (Nat.le_refl _) _ _ _ _ _, .inl ⟨by rw [HE.out]; exact HE2.out.1, by unfold agg5; rw [HE.out, HE2.out.2.1, HE2.out.2.2.1, HE2.out.2.2.2.1, HE2.out.2.2.2.2.1, HE2.out.2.2.2.2.2.1, HSG.out, HV.out.1, HV.out.2.1, HV.out.2.2.1, HV.out.2.2.2, HVX.out.1, HVX.out.2.1, HVX.out.2.2]; simp⟩⟩
        · replace CX : Hid (∀ (b0 : Nat) (w0 : World), ScanAt (w.heap.size + 1) s ((K : Int) + 1) w0 → UnSt (w.heap.size + 1) (b0 + 3) 3 (fun j => (b0 + j, 0)) zero w0 → Calls Tryz.prog 76 #[.pointer (some ⟨w.heap.size + 1, 0, none⟩), .string ⟨#[72, 77, 83]⟩, .slice (some ⟨b0 + 3, 0, none⟩) 3 3] w0 fun e w' => ∃ p : Nat, e = .returned (.tuple #[.bool false, .iface 105 (.pointer (some ⟨p, 0, none⟩))]) ∧ KeptOf (UnS (w.heap.size + 1) 3 (fun j => (b0 + j, 0))) w0 w' ∧ AtBox w0.heap.size X.err X.at_ (.iface 105 (.pointer (some ⟨p, 0, none⟩))) w') := Lib.hid fun b0 w0 h h2 => (CX.out b0 w0 h h2).mono fun e w' ⟨h3, h4⟩ => by
            rcases h4 with ⟨h5, -⟩ | ⟨-, v, h6, h7⟩
            · exact absurd h5 hX0
            · obtain ⟨p, rfl, h8⟩ := h7
              exact ⟨p, h6, h3, p, rfl, h8⟩
          rw [if_neg hX0] at HE
          have HX0 := Lib.hid hX0
          clear hX0
          go_enter Tryz.func40, Tryz.ntmps40
          go_wp2_with (first
            | (go_at_call 42; (with_reducible refine (C45.out _ HW2.out.1).mono ?_); rintro e w1 ⟨rfl, hS, hO⟩; have HS1 := Lib.hid hS; have HF1 := Lib.hid (HW2.out.2.1.only hO (by omega)); have HO1 := Lib.hid (hO.new HW2.out.2.2 (by omega)); have HL1 := Lib.hid hS.1; clear hS hO)
            | (go_at_call 42; (with_reducible refine (C80.out _ (HS1.out.alloc _)).mono ?_); rintro e w2 ⟨rfl, hS, hO⟩; have HS2 := Lib.hid hS; have HL2 := Lib.hid hS.1; have HF2 := Lib.hid ((HF1.out.call ((Below.refl _ _).alloc (Nat.le_refl _) _)).only hO (by omega)); have HP2 := Lib.hid ((Five.new w1 43).only hO (by have := HL1.out; omega)); have HO2 := Lib.hid (hO.new (HO1.out.alloc HO1.out.size _) (by omega)); clear hS hO)
            | (go_at_call 76; (with_reducible refine (CU.out w1.heap.size w2.heap.size _ (HS2.out.alloc _) (UnSt.four w2 (w.heap.size + 1) w1.heap.size zero HP2.out HL2.out (by have := HL1.out; omega) _)).mono ?_); rintro e w3 ⟨rfl, hK, hS, hKs, hUn⟩; have HS3 := Lib.hid hS; have HF3 := Lib.hid ((HF2.out.call ((Below.refl _ _).alloc (Nat.le_refl _) _)).kept hK (fun i _ => nf i _ _ _ _ (by omega) (fun j _ e => by have := congrArg Prod.fst e; have := HO1.out.size; have := HL1.out; simp at *; omega))); have HB3 := Lib.hid ((HO2.out.alloc HO2.out.size _).trans (hK.below (UnS.ge (by omega) (fun _ _ => HO1.out.size)) (by have := HO2.out.size; simp; omega))); have HP3 : Hid (Pcells w3 w1.heap.size a0 a1 a2 a3 0) := Lib.hid (P3 HP2.out hUn hK (by have := HL1.out; omega) HV.out.1 HV.out.2.1 HV.out.2.2.1 HV.out.2.2.2); clear hK hS hKs hUn)
            | (go_at_call 42; (with_reducible refine (C84.out _ HS3.out).mono ?_); rintro e w4 ⟨rfl, hS, hO⟩; have HS4 := Lib.hid hS; have HL4 := Lib.hid hS.1; have HF4 := Lib.hid (HF3.out.only hO (by omega)); have HB4 := Lib.hid (HB3.out.trans (hO.1.mono (by omega))); have HP4 := Lib.hid (P4 hO (by have := HL1.out; omega) HP3.out); obtain ⟨-, k0, k1, -⟩ := hS; clear hO)
            | (go_at_call 76; (with_reducible refine (CX.out w4.heap.size _ (((((HS4.out.alloc _).alloc _).alloc _).alloc _)) (UnSt.three w4 (w.heap.size + 1) HL4.out _ _)).mono ?_); rintro e w5 ⟨p, rfl, hK, hA⟩; have HF5 := Lib.hid ((HF4.out.call (((((Below.refl _ w4).alloc (Nat.le_refl _) _).alloc (by simp) _).alloc (by simp; omega) _).alloc (by simp; omega) _)).kept hK (fun i _ => nf i _ _ _ _ (by omega) (fun j _ e => by have := congrArg Prod.fst e; have := HF4.out.1; simp at *; omega))); have HB5 := Lib.hid ((thenB HB4.out (((((Below.refl _ w4).alloc (Nat.le_refl _) _).alloc (by simp) _).alloc (by simp; omega) _).alloc (by simp; omega) _)).trans (hK.below (UnS.ge (by omega) (fun j _ => by have := HB4.out.size; show w.heap.size ≤ w4.heap.size + j; omega)) (by have := HB4.out.size; simp; omega))); have HX5 := Lib.hid (hA.mono (show w.heap.size + 1 ≤ _ by have := HF4.out.1; simp; omega)); clear hK hA; have r0 := (HF5.out.2 0 (by omega)).1; have rf0 := (HF5.out.2 0 (by omega)).2; have r1 := (HF5.out.2 1 (by omega)).1; have rf1 := (HF5.out.2 1 (by omega)).2; have r2 := (HF5.out.2 2 (by omega)).1; have rf2 := (HF5.out.2 2 (by omega)).2; have r3 := (HF5.out.2 3 (by omega)).1; have rf3 := (HF5.out.2 3 (by omega)).2; have r4 := (HF5.out.2 4 (by omega)).1; have rf4 := (HF5.out.2 4 (by omega)).2))
          have hq := set_five w5 w.heap.size (.int .i64 0) (.int .i64 0) (.int .i64 0) (.int .i64 0) (.int .i64 0) _ _ _ _ _ r0 r1 r2 r3 r4
          exact bodyPost_ret (v := .tuple #[.agg #[.int .i64 0, .int .i64 0, .int .i64 0, .int .i64 0, .int .i64 0], .iface 105 (.pointer (some ⟨p, 0, none⟩))]) (by simp [results, Tryz.results40, go_sem, hq.1, hq.2.1, hq.2.2.1, hq.2.2.2.1, hq.2.2.2.2]) rfl ⟨below_set5 HB5.out (Nat.le_refl _) _ _ _ _ _, .inr ⟨by rw [HE.out]; exact HX0.out, _, rfl, by rw [HE.out]; exact ((HX5.out.set5 (Nat.lt_succ_self _) _ _ _ _ _).mono (Nat.le_succ _))⟩⟩
    · replace CU : Hid (∀ (PB TB : Nat) (w0 : World), ScanAt (w.heap.size + 1) s (0 + 1) w0 → UnSt (w.heap.size + 1) TB 4 (fun j => (PB, j)) zero w0 → Calls Tryz.prog 76 #[.pointer (some ⟨w.heap.size + 1, 0, none⟩), .string ⟨#[89, 77, 87, 68]⟩, .slice (some ⟨TB, 0, none⟩) 4 4] w0 fun e w' => ∃ p : Nat, e = .returned (.tuple #[.bool false, .iface 105 (.pointer (some ⟨p, 0, none⟩))]) ∧ KeptOf (UnS (w.heap.size + 1) 4 (fun j => (PB, j))) w0 w' ∧ AtBox w0.heap.size U.err U.at_ (.iface 105 (.pointer (some ⟨p, 0, none⟩))) w') := Lib.hid fun PB TB w0 h h2 => (CU.out PB TB w0 h h2).mono fun e w' ⟨h3, h4⟩ => by
        rcases h4 with ⟨h5, -⟩ | ⟨-, v, h6, h7⟩
        · exact absurd h5 hU0
        · obtain ⟨p, rfl, h8⟩ := h7
          exact ⟨p, h6, h3, p, rfl, h8⟩
      have HE2 : Hid (perF s.data.toList = ⟨U.err, U.at_, zero⟩) := Lib.hid (HE.out.trans (perT_err hU0))
      have HU0 := Lib.hid hU0
      clear hU0
      go_enter Tryz.func40, Tryz.ntmps40
      go_wp2_with (first
        | (go_at_call 42; (with_reducible refine (C45.out _ HW2.out.1).mono ?_); rintro e w1 ⟨rfl, hS, hO⟩; have HS1 := Lib.hid hS; have HF1 := Lib.hid (HW2.out.2.1.only hO (by omega)); have HO1 := Lib.hid (hO.new HW2.out.2.2 (by omega)); have HL1 := Lib.hid hS.1; clear hS hO)
        | (go_at_call 42; (with_reducible refine (C80.out _ (HS1.out.alloc _)).mono ?_); rintro e w2 ⟨rfl, hS, hO⟩; have HS2 := Lib.hid hS; have HL2 := Lib.hid hS.1; have HF2 := Lib.hid ((HF1.out.call ((Below.refl _ _).alloc (Nat.le_refl _) _)).only hO (by omega)); have HP2 := Lib.hid ((Five.new w1 43).only hO (by have := HL1.out; omega)); have HO2 := Lib.hid (hO.new (HO1.out.alloc HO1.out.size _) (by omega)); clear hS hO)
        | (go_at_call 76; (with_reducible refine (CU.out w1.heap.size w2.heap.size _ (HS2.out.alloc _) (UnSt.four w2 (w.heap.size + 1) w1.heap.size zero HP2.out HL2.out (by have := HL1.out; omega) _)).mono ?_); rintro e w3 ⟨p, rfl, hK, hA⟩; have HF3 := Lib.hid ((HF2.out.call ((Below.refl _ _).alloc (Nat.le_refl _) _)).kept hK (fun i _ => nf i _ _ _ _ (by omega) (fun j _ e => by have := congrArg Prod.fst e; have := HO1.out.size; have := HL1.out; simp at *; omega))); have HB3 := Lib.hid ((HO2.out.alloc HO2.out.size _).trans (hK.below (UnS.ge (by omega) (fun _ _ => HO1.out.size)) (by have := HO2.out.size; simp; omega))); have HX3 := Lib.hid (hA.mono (show w.heap.size + 1 ≤ _ by have := HF2.out.1; simp; omega)); clear hK hA; have r0 := (HF3.out.2 0 (by omega)).1; have rf0 := (HF3.out.2 0 (by omega)).2; have r1 := (HF3.out.2 1 (by omega)).1; have rf1 := (HF3.out.2 1 (by omega)).2; have r2 := (HF3.out.2 2 (by omega)).1; have rf2 := (HF3.out.2 2 (by omega)).2; have r3 := (HF3.out.2 3 (by omega)).1; have rf3 := (HF3.out.2 3 (by omega)).2; have r4 := (HF3.out.2 4 (by omega)).1; have rf4 := (HF3.out.2 4 (by omega)).2))
      have hq := set_five w3 w.heap.size (.int .i64 0) (.int .i64 0) (.int .i64 0) (.int .i64 0) (.int .i64 0) _ _ _ _ _ r0 r1 r2 r3 r4
      exact bodyPost_ret (v := .tuple #[.agg #[.int .i64 0, .int .i64 0, .int .i64 0, .int .i64 0, .int .i64 0], .iface 105 (.pointer (some ⟨p, 0, none⟩))]) (by simp [results, Tryz.results40, go_sem, hq.1, hq.2.1, hq.2.2.1, hq.2.2.2.1, hq.2.2.2.2]) rfl ⟨below_set5 HB3.out (Nat.le_refl _) _ _ _ _ _, .inr ⟨by rw [HE2.out]; exact HU0.out, _, rfl, by rw [HE2.out]; exact ((HX3.out.set5 (Nat.lt_succ_self _) _ _ _ _ _).mono (Nat.le_succ _))⟩⟩
set_option maxRecDepth 100000 in
set_option maxHeartbeats 8000000 in
theorem cparse_yes (s : ByteArray) (w : World) (hs : s.size ≤ 9223372036854775807) (hB : isB s 0 45 = true) :
    Calls Tryz.prog 40 #[.string s] w (PerPost (perF s.data.toList) w) := by
  obtain ⟨hsg, hsk⟩ := sg_yes hB
  have C45 : Hid (∀ w0, ScanAt (w.heap.size + 1) s 0 w0 → Calls Tryz.prog 42 #[.pointer (some ⟨w.heap.size + 1, 0, none⟩), .int .u8 45] w0 fun e w' => e = .returned (.bool true) ∧ ScanAt (w.heap.size + 1) s 1 w' ∧ Only (w.heap.size + 1) w0 w') := Lib.hid fun w0 h => by
    have q := cis_any (w.heap.size + 1) s 0 45 w0 h (by omega)
    rw [hB, isK_yes hB] at q
    exact q
  have HW2 : Hid (ScanAt (w.heap.size + 1) s 0 ((w.alloc (.cells #[.int .i64 0, .int .i64 0, .int .i64 0, .int .i64 0, .int .i64 0] 43)).alloc (.cells #[.string s, .int .i64 0] 93)) ∧ Five w.heap.size zero ((w.alloc (.cells #[.int .i64 0, .int .i64 0, .int .i64 0, .int .i64 0, .int .i64 0] 43)).alloc (.cells #[.string s, .int .i64 0] 93)) ∧ Below w.heap.size w ((w.alloc (.cells #[.int .i64 0, .int .i64 0, .int .i64 0, .int .i64 0, .int .i64 0] 43)).alloc (.cells #[.string s, .int .i64 0] 93))) := Lib.hid (by
    have q := ScanAt.new ((w.alloc (.cells #[.int .i64 0, .int .i64 0, .int .i64 0, .int .i64 0, .int .i64 0] 43))) s 0 93
    rw [World.size_alloc] at q
    exact ⟨q, (Five.new w _).call ((Below.refl _ _).alloc (Nat.le_refl _) _), ((Below.refl _ _).alloc (Nat.le_refl _) _).alloc (by simp) _⟩)
  have HSG := Lib.hid hsg
  have HSK := Lib.hid hsk
  have hk1 : 1 ≤ s.size := by have := isK_le (s := s) (k := 0) (c := 45) (by omega); rw [isK_yes hB] at this; exact this
  clear hB hsg hsk
  rcases hP : isB s 1 80 with _ | _
  · have C80 : Hid (∀ w0, ScanAt (w.heap.size + 1) s 1 w0 → Calls Tryz.prog 42 #[.pointer (some ⟨w.heap.size + 1, 0, none⟩), .int .u8 80] w0 fun e w' => e = .returned (.bool false) ∧ ScanAt (w.heap.size + 1) s 1 w' ∧ Only (w.heap.size + 1) w0 w') := Lib.hid fun w0 h => by
      have q := cis_any (w.heap.size + 1) s 1 80 w0 h (by omega)
      rw [hP, isK_no hP] at q
      exact q
    have HE : Hid (perF s.data.toList = ⟨5, (1 : Nat), zero⟩) := Lib.hid (perF_no HSK.out hP)
    clear hP hk1
    go_enter Tryz.func40, Tryz.ntmps40
    go_wp2_with (first
      | (go_at_call 42; (with_reducible refine (C45.out _ HW2.out.1).mono ?_); rintro e w1 ⟨rfl, hS, hO⟩; have HS1 := Lib.hid hS; have HF1 := Lib.hid (HW2.out.2.1.only hO (by omega)); have HO1 := Lib.hid (hO.new HW2.out.2.2 (by omega)); have HL1 := Lib.hid hS.1; clear hS hO)
      | (go_at_call 42; (with_reducible refine (C80.out _ (HS1.out.alloc _)).mono ?_); rintro e w2 ⟨rfl, hS, hO⟩; have HS2 := Lib.hid hS; have HL2 := Lib.hid hS.1; have HF2 := Lib.hid ((HF1.out.call ((Below.refl _ _).alloc (Nat.le_refl _) _)).only hO (by omega)); have HP2 := Lib.hid ((Five.new w1 43).only hO (by have := HL1.out; omega)); have HO2 := Lib.hid (hO.new (HO1.out.alloc HO1.out.size _) (by omega)); clear hS hO))
    have p0 := (HP2.out.2 0 (by omega)).1
    simp only [zero] at p0
    have p1 := (HP2.out.2 1 (by omega)).1
    simp only [zero] at p1
    have p2 := (HP2.out.2 2 (by omega)).1
    simp only [zero] at p2
    have p3 := (HP2.out.2 3 (by omega)).1
    simp only [zero] at p3
    have p4 := (HP2.out.2 4 (by omega)).1
    simp only [zero] at p4
    have r0 := (HF2.out.2 0 (by omega)).1
    have rf0 := (HF2.out.2 0 (by omega)).2
    have r1 := (HF2.out.2 1 (by omega)).1
    have rf1 := (HF2.out.2 1 (by omega)).2
    have r2 := (HF2.out.2 2 (by omega)).1
    have rf2 := (HF2.out.2 2 (by omega)).2
    have r3 := (HF2.out.2 3 (by omega)).1
    have rf3 := (HF2.out.2 3 (by omega)).2
    have r4 := (HF2.out.2 4 (by omega)).1
    have rf4 := (HF2.out.2 4 (by omega)).2
    have C5 : Hid (Calls Tryz.prog 45 #[.pointer (some ⟨w.heap.size + 1, 0, none⟩)] w2.drew fun e w' => e = .returned (.iface 105 (.pointer (some ⟨w2.heap.size, 0, none⟩))) ∧ w' = w2.drew.alloc (.cells #[.int .i64 5, .int .i64 1] 107)) := Lib.hid (bad_at (w.heap.size + 1) s 1 w2.drew HS2.out)
    have hlt2 : w.heap.size < w2.heap.size := HF2.out.1
    have hlt1 : w1.heap.size < w2.heap.size := HP2.out.1
    go_region_with (go_at_call 45; (with_reducible refine C5.out.mono ?_); rintro e w3 ⟨rfl, rfl⟩)
    all_goals
      go_wp2_with fail
      have hq := set_five w2 w.heap.size (.int .i64 0) (.int .i64 0) (.int .i64 0) (.int .i64 0) (.int .i64 0) _ _ _ _ _ r0 r1 r2 r3 r4
      have HBW := below_set5 HO2.out (Nat.le_refl _) (.int .i64 0) (.int .i64 0) (.int .i64 0) (.int .i64 0) (.int .i64 0)
      obtain ⟨W5, hW5⟩ : ∃ x, (((((w2.setCell ⟨w.heap.size, 0, none⟩ (.int .i64 0)).setCell ⟨w.heap.size, 1, none⟩ (.int .i64 0)).setCell ⟨w.heap.size, 2, none⟩ (.int .i64 0)).setCell ⟨w.heap.size, 3, none⟩ (.int .i64 0)).setCell ⟨w.heap.size, 4, none⟩ (.int .i64 0)) = x := ⟨_, rfl⟩
      rw [hW5] at hq HBW ⊢
      have hz5 : W5.heap.size = w2.heap.size := by rw [← hW5]; simp [World.setCell]
      have hl5 : w.heap.size < W5.heap.size := by rw [hz5]; exact hlt2
      have HX := (AtBox.new W5 5 1).drewN 1
      have far : ∀ i, ((W5.alloc (.cells #[.int .i64 5, .int .i64 1] 107)).drew).cell? ⟨w.heap.size, i, none⟩ = W5.cell? ⟨w.heap.size, i, none⟩ := fun i => World.cell?_alloc_lt _ _ ⟨w.heap.size, i, none⟩ hl5
      rw [hz5] at HX
      exact bodyPost_ret (v := .tuple #[.agg #[.int .i64 0, .int .i64 0, .int .i64 0, .int .i64 0, .int .i64 0], .iface 105 (.pointer (some ⟨w2.heap.size, 0, none⟩))]) (by simp [results, Tryz.results40, go_sem, far, hq.1, hq.2.1, hq.2.2.1, hq.2.2.2.1, hq.2.2.2.2]) rfl ⟨(HBW.alloc HBW.size _).drew, .inr ⟨by rw [HE.out]; exact five_ne, _, rfl, by rw [HE.out]; exact HX.mono (Nat.le_of_lt hlt2)⟩⟩
  · have C80 : Hid (∀ w0, ScanAt (w.heap.size + 1) s 1 w0 → Calls Tryz.prog 42 #[.pointer (some ⟨w.heap.size + 1, 0, none⟩), .int .u8 80] w0 fun e w' => e = .returned (.bool true) ∧ ScanAt (w.heap.size + 1) s (1 + 1) w' ∧ Only (w.heap.size + 1) w0 w') := Lib.hid fun w0 h => by
      have q := cis_any (w.heap.size + 1) s 1 80 w0 h (by omega)
      rw [hP, isK_yes hP] at q
      exact q
    have HKL : Hid (1 + 1 ≤ s.size) := Lib.hid (isB_lt hP)
    have HE : Hid (perF s.data.toList = perT s.data.toList (unitsF s.data.toList ymwd 5 0 (1 + 1) zero false)) := Lib.hid (perF_yes HSK.out hP)
    have HUB := Lib.hid (unitsF_bd (l := s.data.toList) (us := ymwd) (f := 5) (nx := 0) (k := 1 + 1) (v := zero) (b := false) (fun _ => by simp [zero]))
    have CU : Hid (∀ (PB TB : Nat) (w0 : World), ScanAt (w.heap.size + 1) s (1 + 1) w0 → UnSt (w.heap.size + 1) TB 4 (fun j => (PB, j)) zero w0 → Calls Tryz.prog 76 #[.pointer (some ⟨w.heap.size + 1, 0, none⟩), .string ⟨#[89, 77, 87, 68]⟩, .slice (some ⟨TB, 0, none⟩) 4 4] w0 (UPost (w.heap.size + 1) TB 4 s (fun j => (PB, j)) (unitsF s.data.toList ymwd 5 0 (1 + 1) zero false) w0)) := Lib.hid fun PB TB w0 h hU => units_any (w.heap.size + 1) TB 4 4 s ⟨#[89, 77, 87, 68]⟩ (1 + 1) (fun j => (PB, j)) zero w0 h HKL.out hs rfl (by omega) hU
    obtain ⟨U, hU⟩ : ∃ U, unitsF s.data.toList ymwd 5 0 (1 + 1) zero false = U := ⟨_, rfl⟩
    rw [hU] at CU HE HUB
    clear hU hP hk1
    unfold UPost at CU
    by_cases hU0 : U.err = 0
    · replace CU : Hid (∀ (PB TB : Nat) (w0 : World), ScanAt (w.heap.size + 1) s (1 + 1) w0 → UnSt (w.heap.size + 1) TB 4 (fun j => (PB, j)) zero w0 → Calls Tryz.prog 76 #[.pointer (some ⟨w.heap.size + 1, 0, none⟩), .string ⟨#[89, 77, 87, 68]⟩, .slice (some ⟨TB, 0, none⟩) 4 4] w0 fun e w' => e = .returned (.tuple #[.bool U.some_, .nilIface]) ∧ KeptOf (UnS (w.heap.size + 1) 4 (fun j => (PB, j))) w0 w' ∧ ScanAt (w.heap.size + 1) s (U.at_ : Int) w' ∧ U.at_ ≤ s.size ∧ UnSt (w.heap.size + 1) TB 4 (fun j => (PB, j)) U.val w') := Lib.hid fun PB TB w0 h h2 => (CU.out PB TB w0 h h2).mono fun e w' ⟨h3, h4⟩ => by
        rcases h4 with ⟨-, h5, h6⟩ | ⟨h5, -⟩
        · exact ⟨h5, h3, h6⟩
        · exact absurd hU0 h5
      have HU0 := Lib.hid hU0
      clear hU0
      obtain ⟨K, hK⟩ : ∃ K, U.at_ = K := ⟨_, rfl⟩
      obtain ⟨sb, hsb⟩ : ∃ b, U.some_ = b := ⟨_, rfl⟩
      rw [hK, hsb] at CU
      obtain ⟨a0, ha0⟩ : ∃ x, U.val 0 = x := ⟨_, rfl⟩
      obtain ⟨a1, ha1⟩ : ∃ x, U.val 1 = x := ⟨_, rfl⟩
      obtain ⟨a2, ha2⟩ : ∃ x, U.val 2 = x := ⟨_, rfl⟩
      obtain ⟨a3, ha3⟩ : ∃ x, U.val 3 = x := ⟨_, rfl⟩
      have hb0 := HUB.out 0; rw [ha0] at hb0; obtain ⟨hl0, hg0⟩ := hb0
      have hb1 := HUB.out 1; rw [ha1] at hb1; obtain ⟨hl1, hg1⟩ := hb1
      have hb2 := HUB.out 2; rw [ha2] at hb2; obtain ⟨hl2, hg2⟩ := hb2
      have hb3 := HUB.out 3; rw [ha3] at hb3; obtain ⟨hl3, hg3⟩ := hb3
      have HV : Hid (U.val 0 = a0 ∧ U.val 1 = a1 ∧ U.val 2 = a2 ∧ U.val 3 = a3) := Lib.hid ⟨ha0, ha1, ha2, ha3⟩
      clear ha0 ha1 ha2 ha3
      have HSB := Lib.hid hsb; have HKK := Lib.hid hK; clear hsb hK
      rcases hT : isB s K 84 with _ | _
      · have C84 : Hid (∀ w0, ScanAt (w.heap.size + 1) s K w0 → Calls Tryz.prog 42 #[.pointer (some ⟨w.heap.size + 1, 0, none⟩), .int .u8 84] w0 fun e w' => e = .returned (.bool false) ∧ ScanAt (w.heap.size + 1) s K w' ∧ Only (w.heap.size + 1) w0 w') := Lib.hid fun w0 h => by
          have q := cis_any (w.heap.size + 1) s K 84 w0 h (by omega)
          rw [hT, isK_no hT] at q
          exact q
        replace HE : Hid (perF s.data.toList = perZ s.data.toList U.val zero sb K) := Lib.hid (by rw [HE.out, perT_no HU0.out (by rw [HKK.out]; exact hT), HSB.out, HKK.out])
        clear hT HSB
        have CB : Hid (∀ w0, ScanAt (w.heap.size + 1) s K w0 → Calls Tryz.prog 45 #[.pointer (some ⟨w.heap.size + 1, 0, none⟩)] w0 (BadPost w0 5 K)) := Lib.hid fun w0 h => bad_any (w.heap.size + 1) s K w0 h
        unfold BadPost at CB
        rcases sb with _ | _
        · have HE2 := Lib.hid (HE.out.trans (perZ_bad (.inl rfl)))
          go_enter Tryz.func40, Tryz.ntmps40
          go_wp2_with (first
            | (go_at_call 42; (with_reducible refine (C45.out _ HW2.out.1).mono ?_); rintro e w1 ⟨rfl, hS, hO⟩; have HS1 := Lib.hid hS; have HF1 := Lib.hid (HW2.out.2.1.only hO (by omega)); have HO1 := Lib.hid (hO.new HW2.out.2.2 (by omega)); have HL1 := Lib.hid hS.1; clear hS hO)
            | (go_at_call 42; (with_reducible refine (C80.out _ (HS1.out.alloc _)).mono ?_); rintro e w2 ⟨rfl, hS, hO⟩; have HS2 := Lib.hid hS; have HL2 := Lib.hid hS.1; have HF2 := Lib.hid ((HF1.out.call ((Below.refl _ _).alloc (Nat.le_refl _) _)).only hO (by omega)); have HP2 := Lib.hid ((Five.new w1 43).only hO (by have := HL1.out; omega)); have HO2 := Lib.hid (hO.new (HO1.out.alloc HO1.out.size _) (by omega)); clear hS hO)
            | (go_at_call 76; (with_reducible refine (CU.out w1.heap.size w2.heap.size _ (HS2.out.alloc _) (UnSt.four w2 (w.heap.size + 1) w1.heap.size zero HP2.out HL2.out (by have := HL1.out; omega) _)).mono ?_); rintro e w3 ⟨rfl, hK, hS, hKs, hUn⟩; have HS3 := Lib.hid hS; have HF3 := Lib.hid ((HF2.out.call ((Below.refl _ _).alloc (Nat.le_refl _) _)).kept hK (fun i _ => nf i _ _ _ _ (by omega) (fun j _ e => by have := congrArg Prod.fst e; have := HO1.out.size; have := HL1.out; simp at *; omega))); have HB3 := Lib.hid ((HO2.out.alloc HO2.out.size _).trans (hK.below (UnS.ge (by omega) (fun _ _ => HO1.out.size)) (by have := HO2.out.size; simp; omega))); have HP3 : Hid (Pcells w3 w1.heap.size a0 a1 a2 a3 0) := Lib.hid (P3 HP2.out hUn hK (by have := HL1.out; omega) HV.out.1 HV.out.2.1 HV.out.2.2.1 HV.out.2.2.2); clear hK hS hKs hUn)
            | (go_at_call 42; (with_reducible refine (C84.out _ HS3.out).mono ?_); rintro e w4 ⟨rfl, hS, hO⟩; have HS4 := Lib.hid hS; have HL4 := Lib.hid hS.1; have HF4 := Lib.hid (HF3.out.only hO (by omega)); have HB4 := Lib.hid (HB3.out.trans (hO.1.mono (by omega))); have HP4 := Lib.hid (P4 hO (by have := HL1.out; omega) HP3.out); obtain ⟨-, k0, k1, -⟩ := hS; clear hO)
            | (go_at_call 45; (with_reducible refine (CB.out _ HS4.out).mono ?_); rintro e wz ⟨pp, rfl, hX, hbb⟩; have HFz := Lib.hid (HF4.out.call hbb); have HXz := Lib.hid hX; have HBz := Lib.hid (thenB HB4.out hbb); clear hX hbb; have r0 := (HFz.out.2 0 (by omega)).1; have rf0 := (HFz.out.2 0 (by omega)).2; have r1 := (HFz.out.2 1 (by omega)).1; have rf1 := (HFz.out.2 1 (by omega)).2; have r2 := (HFz.out.2 2 (by omega)).1; have rf2 := (HFz.out.2 2 (by omega)).2; have r3 := (HFz.out.2 3 (by omega)).1; have rf3 := (HFz.out.2 3 (by omega)).2; have r4 := (HFz.out.2 4 (by omega)).1; have rf4 := (HFz.out.2 4 (by omega)).2))
          have hq := set_five wz w.heap.size (.int .i64 0) (.int .i64 0) (.int .i64 0) (.int .i64 0) (.int .i64 0) _ _ _ _ _ r0 r1 r2 r3 r4
          exact bodyPost_ret (v := .tuple #[.agg #[.int .i64 0, .int .i64 0, .int .i64 0, .int .i64 0, .int .i64 0], .iface 105 (.pointer (some ⟨pp, 0, none⟩))]) (by simp [results, Tryz.results40, go_sem, hq.1, hq.2.1, hq.2.2.1, hq.2.2.2.1, hq.2.2.2.2]) rfl ⟨below_set5 HBz.out (Nat.le_refl _) _ _ _ _ _, .inr ⟨by rw [HE2.out]; exact five_ne, _, rfl, by rw [HE2.out]; exact ((HXz.out.set5 HF4.out.1 _ _ _ _ _).mono HB4.out.size)⟩⟩
        · by_cases hlt : K < s.size
          · have HE2 := Lib.hid (HE.out.trans (perZ_bad (.inr hlt)))
            have hld : decide (K < s.size) = true := decide_eq_true hlt
            have hldi : decide ((K : Int) < (s.size : Int)) = true := decide_eq_true (by omega)
            go_enter Tryz.func40, Tryz.ntmps40
            go_wp2_with (first
              | (go_at_call 42; (with_reducible refine (C45.out _ HW2.out.1).mono ?_); rintro e w1 ⟨rfl, hS, hO⟩; have HS1 := Lib.hid hS; have HF1 := Lib.hid (HW2.out.2.1.only hO (by omega)); have HO1 := Lib.hid (hO.new HW2.out.2.2 (by omega)); have HL1 := Lib.hid hS.1; clear hS hO)
              | (go_at_call 42; (with_reducible refine (C80.out _ (HS1.out.alloc _)).mono ?_); rintro e w2 ⟨rfl, hS, hO⟩; have HS2 := Lib.hid hS; have HL2 := Lib.hid hS.1; have HF2 := Lib.hid ((HF1.out.call ((Below.refl _ _).alloc (Nat.le_refl _) _)).only hO (by omega)); have HP2 := Lib.hid ((Five.new w1 43).only hO (by have := HL1.out; omega)); have HO2 := Lib.hid (hO.new (HO1.out.alloc HO1.out.size _) (by omega)); clear hS hO)
              | (go_at_call 76; (with_reducible refine (CU.out w1.heap.size w2.heap.size _ (HS2.out.alloc _) (UnSt.four w2 (w.heap.size + 1) w1.heap.size zero HP2.out HL2.out (by have := HL1.out; omega) _)).mono ?_); rintro e w3 ⟨rfl, hK, hS, hKs, hUn⟩; have HS3 := Lib.hid hS; have HF3 := Lib.hid ((HF2.out.call ((Below.refl _ _).alloc (Nat.le_refl _) _)).kept hK (fun i _ => nf i _ _ _ _ (by omega) (fun j _ e => by have := congrArg Prod.fst e; have := HO1.out.size; have := HL1.out; simp at *; omega))); have HB3 := Lib.hid ((HO2.out.alloc HO2.out.size _).trans (hK.below (UnS.ge (by omega) (fun _ _ => HO1.out.size)) (by have := HO2.out.size; simp; omega))); have HP3 : Hid (Pcells w3 w1.heap.size a0 a1 a2 a3 0) := Lib.hid (P3 HP2.out hUn hK (by have := HL1.out; omega) HV.out.1 HV.out.2.1 HV.out.2.2.1 HV.out.2.2.2); clear hK hS hKs hUn)
              | (go_at_call 42; (with_reducible refine (C84.out _ HS3.out).mono ?_); rintro e w4 ⟨rfl, hS, hO⟩; have HS4 := Lib.hid hS; have HL4 := Lib.hid hS.1; have HF4 := Lib.hid (HF3.out.only hO (by omega)); have HB4 := Lib.hid (HB3.out.trans (hO.1.mono (by omega))); have HP4 := Lib.hid (P4 hO (by have := HL1.out; omega) HP3.out); obtain ⟨-, k0, k1, -⟩ := hS; clear hO)
              | (go_at_call 45; (with_reducible refine (CB.out _ HS4.out).mono ?_); rintro e wz ⟨pp, rfl, hX, hbb⟩; have HFz := Lib.hid (HF4.out.call hbb); have HXz := Lib.hid hX; have HBz := Lib.hid (thenB HB4.out hbb); clear hX hbb; have r0 := (HFz.out.2 0 (by omega)).1; have rf0 := (HFz.out.2 0 (by omega)).2; have r1 := (HFz.out.2 1 (by omega)).1; have rf1 := (HFz.out.2 1 (by omega)).2; have r2 := (HFz.out.2 2 (by omega)).1; have rf2 := (HFz.out.2 2 (by omega)).2; have r3 := (HFz.out.2 3 (by omega)).1; have rf3 := (HFz.out.2 3 (by omega)).2; have r4 := (HFz.out.2 4 (by omega)).1; have rf4 := (HFz.out.2 4 (by omega)).2))
            have hq := set_five wz w.heap.size (.int .i64 0) (.int .i64 0) (.int .i64 0) (.int .i64 0) (.int .i64 0) _ _ _ _ _ r0 r1 r2 r3 r4
            exact bodyPost_ret (v := .tuple #[.agg #[.int .i64 0, .int .i64 0, .int .i64 0, .int .i64 0, .int .i64 0], .iface 105 (.pointer (some ⟨pp, 0, none⟩))]) (by simp [results, Tryz.results40, go_sem, hq.1, hq.2.1, hq.2.2.1, hq.2.2.2.1, hq.2.2.2.2]) rfl ⟨below_set5 HBz.out (Nat.le_refl _) _ _ _ _ _, .inr ⟨by rw [HE2.out]; exact five_ne, _, rfl, by rw [HE2.out]; exact ((HXz.out.set5 HF4.out.1 _ _ _ _ _).mono HB4.out.size)⟩⟩
          · have HE2 := Lib.hid (perZ_ok (v := U.val) (t := zero) (b := true) rfl hlt)
            have hld : decide (K < s.size) = false := decide_eq_false hlt
            have hldi : decide ((K : Int) < (s.size : Int)) = false := decide_eq_false (by omega)
            go_enter Tryz.func40, Tryz.ntmps40
            go_wp2_with (first
              | (go_at_call 42; (with_reducible refine (C45.out _ HW2.out.1).mono ?_); rintro e w1 ⟨rfl, hS, hO⟩; have HS1 := Lib.hid hS; have HF1 := Lib.hid (HW2.out.2.1.only hO (by omega)); have HO1 := Lib.hid (hO.new HW2.out.2.2 (by omega)); have HL1 := Lib.hid hS.1; clear hS hO)
              | (go_at_call 42; (with_reducible refine (C80.out _ (HS1.out.alloc _)).mono ?_); rintro e w2 ⟨rfl, hS, hO⟩; have HS2 := Lib.hid hS; have HL2 := Lib.hid hS.1; have HF2 := Lib.hid ((HF1.out.call ((Below.refl _ _).alloc (Nat.le_refl _) _)).only hO (by omega)); have HP2 := Lib.hid ((Five.new w1 43).only hO (by have := HL1.out; omega)); have HO2 := Lib.hid (hO.new (HO1.out.alloc HO1.out.size _) (by omega)); clear hS hO)
              | (go_at_call 76; (with_reducible refine (CU.out w1.heap.size w2.heap.size _ (HS2.out.alloc _) (UnSt.four w2 (w.heap.size + 1) w1.heap.size zero HP2.out HL2.out (by have := HL1.out; omega) _)).mono ?_); rintro e w3 ⟨rfl, hK, hS, hKs, hUn⟩; have HS3 := Lib.hid hS; have HF3 := Lib.hid ((HF2.out.call ((Below.refl _ _).alloc (Nat.le_refl _) _)).kept hK (fun i _ => nf i _ _ _ _ (by omega) (fun j _ e => by have := congrArg Prod.fst e; have := HO1.out.size; have := HL1.out; simp at *; omega))); have HB3 := Lib.hid ((HO2.out.alloc HO2.out.size _).trans (hK.below (UnS.ge (by omega) (fun _ _ => HO1.out.size)) (by have := HO2.out.size; simp; omega))); have HP3 : Hid (Pcells w3 w1.heap.size a0 a1 a2 a3 0) := Lib.hid (P3 HP2.out hUn hK (by have := HL1.out; omega) HV.out.1 HV.out.2.1 HV.out.2.2.1 HV.out.2.2.2); clear hK hS hKs hUn)
              | (go_at_call 42; (with_reducible refine (C84.out _ HS3.out).mono ?_); rintro e w4 ⟨rfl, hS, hO⟩; have HS4 := Lib.hid hS; have HL4 := Lib.hid hS.1; have HF4 := Lib.hid (HF3.out.only hO (by omega)); have HB4 := Lib.hid (HB3.out.trans (hO.1.mono (by omega))); have HP4 := Lib.hid (P4 hO (by have := HL1.out; omega) HP3.out); obtain ⟨-, k0, k1, -⟩ := hS; clear hO; have p0 := HP4.out.2.1.1; have p1 := HP4.out.2.2.1.1; have p2 := HP4.out.2.2.2.1.1; have p3 := HP4.out.2.2.2.2.1.1; have p4 := HP4.out.2.2.2.2.2.1; have r0 := (HF4.out.2 0 (by omega)).1; have rf0 := (HF4.out.2 0 (by omega)).2; have r1 := (HF4.out.2 1 (by omega)).1; have rf1 := (HF4.out.2 1 (by omega)).2; have r2 := (HF4.out.2 2 (by omega)).1; have rf2 := (HF4.out.2 2 (by omega)).2; have r3 := (HF4.out.2 3 (by omega)).1; have rf3 := (HF4.out.2 3 (by omega)).2; have r4 := (HF4.out.2 4 (by omega)).1; have rf4 := (HF4.out.2 4 (by omega)).2))
            have hq := set_five w4 w.heap.size (.int .i64 (-a0)) (.int .i64 (-a1)) (.int .i64 (-a2)) (.int .i64 (-a3)) (.int .i64 (0)) _ _ _ _ _ r0 r1 r2 r3 r4
            exact bodyPost_ret (v := .tuple #[.agg #[.int .i64 (-a0), .int .i64 (-a1), .int .i64 (-a2), .int .i64 (-a3), .int .i64 (0)], .nilIface]) (by simp [results, Tryz.results40, go_sem, hq.1, hq.2.1, hq.2.2.1, hq.2.2.2.1, hq.2.2.2.2]) rfl ⟨below_set5 HB4.out (Nat.le_refl _) _ _ _ _ _, .inl ⟨by rw [HE.out]; exact HE2.out.1, by unfold agg5; rw [HE.out, HE2.out.2.1, HE2.out.2.2.1, HE2.out.2.2.2.1, HE2.out.2.2.2.2.1, HE2.out.2.2.2.2.2.1, HSG.out, HV.out.1, HV.out.2.1, HV.out.2.2.1, HV.out.2.2.2]; simp [zero]⟩⟩
      · have C84 : Hid (∀ w0, ScanAt (w.heap.size + 1) s K w0 → Calls Tryz.prog 42 #[.pointer (some ⟨w.heap.size + 1, 0, none⟩), .int .u8 84] w0 fun e w' => e = .returned (.bool true) ∧ ScanAt (w.heap.size + 1) s ((K : Int) + 1) w' ∧ Only (w.heap.size + 1) w0 w') := Lib.hid fun w0 h => by
          have q := cis_any (w.heap.size + 1) s K 84 w0 h (by omega)
          rw [hT, isK_yes hT] at q
          exact q
        have HKT : Hid (K + 1 ≤ s.size) := Lib.hid (isB_lt hT)
        replace HE := Lib.hid (HE.out.trans (perT_yes HU0.out (by rw [HKK.out]; exact hT) rfl))
        rw [HKK.out] at HE
        have HXB := Lib.hid (unitsF_bd (l := s.data.toList) (us := hms) (f := 4) (nx := 0) (k := K + 1) (v := zero) (b := false) (fun _ => by simp [zero]))
        have CX : Hid (∀ (b0 : Nat) (w0 : World), ScanAt (w.heap.size + 1) s ((K : Int) + 1) w0 → UnSt (w.heap.size + 1) (b0 + 3) 3 (fun j => (b0 + j, 0)) zero w0 → Calls Tryz.prog 76 #[.pointer (some ⟨w.heap.size + 1, 0, none⟩), .string ⟨#[72, 77, 83]⟩, .slice (some ⟨b0 + 3, 0, none⟩) 3 3] w0 (UPost (w.heap.size + 1) (b0 + 3) 3 s (fun j => (b0 + j, 0)) (unitsF s.data.toList hms 4 0 (K + 1) zero false) w0)) := Lib.hid fun b0 w0 h hU => units_any (w.heap.size + 1) (b0 + 3) 3 3 s ⟨#[72, 77, 83]⟩ (K + 1) (fun j => (b0 + j, 0)) zero w0 h HKT.out hs rfl (by omega) hU
        obtain ⟨X, hX⟩ : ∃ X, unitsF s.data.toList hms 4 0 (K + 1) zero false = X := ⟨_, rfl⟩
        rw [hX] at CX HE HXB
        clear hX hT
        unfold UPost at CX
        by_cases hX0 : X.err = 0
        · replace CX : Hid (∀ (b0 : Nat) (w0 : World), ScanAt (w.heap.size + 1) s ((K : Int) + 1) w0 → UnSt (w.heap.size + 1) (b0 + 3) 3 (fun j => (b0 + j, 0)) zero w0 → Calls Tryz.prog 76 #[.pointer (some ⟨w.heap.size + 1, 0, none⟩), .string ⟨#[72, 77, 83]⟩, .slice (some ⟨b0 + 3, 0, none⟩) 3 3] w0 fun e w' => e = .returned (.tuple #[.bool X.some_, .nilIface]) ∧ KeptOf (UnS (w.heap.size + 1) 3 (fun j => (b0 + j, 0))) w0 w' ∧ ScanAt (w.heap.size + 1) s (X.at_ : Int) w' ∧ X.at_ ≤ s.size ∧ UnSt (w.heap.size + 1) (b0 + 3) 3 (fun j => (b0 + j, 0)) X.val w') := Lib.hid fun b0 w0 h h2 => (CX.out b0 w0 h h2).mono fun e w' ⟨h3, h4⟩ => by
            rcases h4 with ⟨-, h5, h6⟩ | ⟨h5, -⟩
            · exact ⟨h5, h3, h6⟩
            · exact absurd hX0 h5
          rw [if_pos hX0] at HE
          clear hX0
          obtain ⟨K5, hK⟩ : ∃ K, X.at_ = K := ⟨_, rfl⟩
          obtain ⟨sx, hsb⟩ : ∃ b, X.some_ = b := ⟨_, rfl⟩
          rw [hK, hsb] at CX HE
          clear hK hsb
          obtain ⟨x0, ha0⟩ : ∃ x, X.val 0 = x := ⟨_, rfl⟩
          obtain ⟨x1, ha1⟩ : ∃ x, X.val 1 = x := ⟨_, rfl⟩
          obtain ⟨x2, ha2⟩ : ∃ x, X.val 2 = x := ⟨_, rfl⟩
          have hb0 := HXB.out 0; rw [ha0] at hb0; obtain ⟨hm0, hn0⟩ := hb0
          have hb1 := HXB.out 1; rw [ha1] at hb1; obtain ⟨hm1, hn1⟩ := hb1
          have hb2 := HXB.out 2; rw [ha2] at hb2; obtain ⟨hm2, hn2⟩ := hb2
          have HVX : Hid (X.val 0 = x0 ∧ X.val 1 = x1 ∧ X.val 2 = x2) := Lib.hid ⟨ha0, ha1, ha2⟩
          clear ha0 ha1 ha2
          have CB : Hid (∀ w0, ScanAt (w.heap.size + 1) s K5 w0 → Calls Tryz.prog 45 #[.pointer (some ⟨w.heap.size + 1, 0, none⟩)] w0 (BadPost w0 5 K5)) := Lib.hid fun w0 h => bad_any (w.heap.size + 1) s K5 w0 h
          unfold BadPost at CB
          rcases sx with _ | _
          · have HE2 := Lib.hid (HE.out.trans (perZ_bad (.inl rfl)))
            go_enter Tryz.func40, Tryz.ntmps40
            go_wp2_with (first
              | (go_at_call 42; (with_reducible refine (C45.out _ HW2.out.1).mono ?_); rintro e w1 ⟨rfl, hS, hO⟩; have HS1 := Lib.hid hS; have HF1 := Lib.hid (HW2.out.2.1.only hO (by omega)); have HO1 := Lib.hid (hO.new HW2.out.2.2 (by omega)); have HL1 := Lib.hid hS.1; clear hS hO)
              | (go_at_call 42; (with_reducible refine (C80.out _ (HS1.out.alloc _)).mono ?_); rintro e w2 ⟨rfl, hS, hO⟩; have HS2 := Lib.hid hS; have HL2 := Lib.hid hS.1; have HF2 := Lib.hid ((HF1.out.call ((Below.refl _ _).alloc (Nat.le_refl _) _)).only hO (by omega)); have HP2 := Lib.hid ((Five.new w1 43).only hO (by have := HL1.out; omega)); have HO2 := Lib.hid (hO.new (HO1.out.alloc HO1.out.size _) (by omega)); clear hS hO)
              | (go_at_call 76; (with_reducible refine (CU.out w1.heap.size w2.heap.size _ (HS2.out.alloc _) (UnSt.four w2 (w.heap.size + 1) w1.heap.size zero HP2.out HL2.out (by have := HL1.out; omega) _)).mono ?_); rintro e w3 ⟨rfl, hK, hS, hKs, hUn⟩; have HS3 := Lib.hid hS; have HF3 := Lib.hid ((HF2.out.call ((Below.refl _ _).alloc (Nat.le_refl _) _)).kept hK (fun i _ => nf i _ _ _ _ (by omega) (fun j _ e => by have := congrArg Prod.fst e; have := HO1.out.size; have := HL1.out; simp at *; omega))); have HB3 := Lib.hid ((HO2.out.alloc HO2.out.size _).trans (hK.below (UnS.ge (by omega) (fun _ _ => HO1.out.size)) (by have := HO2.out.size; simp; omega))); have HP3 : Hid (Pcells w3 w1.heap.size a0 a1 a2 a3 0) := Lib.hid (P3 HP2.out hUn hK (by have := HL1.out; omega) HV.out.1 HV.out.2.1 HV.out.2.2.1 HV.out.2.2.2); clear hK hS hKs hUn)
              | (go_at_call 42; (with_reducible refine (C84.out _ HS3.out).mono ?_); rintro e w4 ⟨rfl, hS, hO⟩; have HS4 := Lib.hid hS; have HL4 := Lib.hid hS.1; have HF4 := Lib.hid (HF3.out.only hO (by omega)); have HB4 := Lib.hid (HB3.out.trans (hO.1.mono (by omega))); have HP4 := Lib.hid (P4 hO (by have := HL1.out; omega) HP3.out); obtain ⟨-, k0, k1, -⟩ := hS; clear hO)
              | (go_at_call 76; (with_reducible refine (CX.out w4.heap.size _ (((((HS4.out.alloc _).alloc _).alloc _).alloc _)) (UnSt.three w4 (w.heap.size + 1) HL4.out _ _)).mono ?_); rintro e w5 ⟨rfl, hK, hS, hKs, hUn⟩; have HS5 := Lib.hid hS; have HF5 := Lib.hid ((HF4.out.call (((((Below.refl _ w4).alloc (Nat.le_refl _) _).alloc (by simp) _).alloc (by simp; omega) _).alloc (by simp; omega) _)).kept hK (fun i _ => nf i _ _ _ _ (by omega) (fun j _ e => by have := congrArg Prod.fst e; have := HF4.out.1; simp at *; omega))); have HB5 := Lib.hid ((thenB HB4.out (((((Below.refl _ w4).alloc (Nat.le_refl _) _).alloc (by simp) _).alloc (by simp; omega) _).alloc (by simp; omega) _)).trans (hK.below (UnS.ge (by omega) (fun j _ => by have := HB4.out.size; show w.heap.size ≤ w4.heap.size + j; omega)) (by have := HB4.out.size; simp; omega))); have hp5 := P5 hK (show ∀ i, i < 5 → ¬ UnS (w.heap.size + 1) 3 (fun j => (w4.heap.size + j, 0)) ⟨w1.heap.size, i, none⟩ from fun i _ => nf i _ _ _ _ (by have := HL1.out; omega) (fun j _ e => by have := congrArg Prod.fst e; have := HP4.out.1; simp at *; omega)) (Pcells.call HP4.out (((((Below.refl _ w4).alloc (Nat.le_refl _) _).alloc (by simp) _).alloc (by simp; omega) _).alloc (by simp; omega) _)); have HP5 := Lib.hid hp5; have y0 : w5.cell? ⟨w4.heap.size, 0, none⟩ = some (.int .i64 x0) := ((hUn.2.2.2 0 (by omega)).2.2.2.2.1).trans (congrArg (fun z => some (Value.int .i64 z)) HVX.out.1); have y1 : w5.cell? ⟨w4.heap.size + 1, 0, none⟩ = some (.int .i64 x1) := ((hUn.2.2.2 1 (by omega)).2.2.2.2.1).trans (congrArg (fun z => some (Value.int .i64 z)) HVX.out.2.1); have y2 : w5.cell? ⟨w4.heap.size + 1 + 1, 0, none⟩ = some (.int .i64 x2) := ((hUn.2.2.2 2 (by omega)).2.2.2.2.1).trans (congrArg (fun z => some (Value.int .i64 z)) HVX.out.2.2); have z4 := hp5.2.2.2.2.2.1; have zf4 := hp5.2.2.2.2.2.2; obtain ⟨-, k0, k1, -⟩ := hS; have hne := (show w1.heap.size ≠ w.heap.size + 1 by have := HL1.out; omega); have HS6 := Lib.hid (HS5.out.set2 ⟨w1.heap.size, 4, none⟩ hne (.int .i64 ((x0 * 60 + x1) * 60 + x2))); have hnr := (show w1.heap.size ≠ w.heap.size by have := HO1.out.size; have := HL1.out; omega); have HF6 := Lib.hid (HF5.out.far (p := ⟨w1.heap.size, 4, none⟩) hnr (.int .i64 ((x0 * 60 + x1) * 60 + x2))); have HB6 := Lib.hid (HB5.out.setCell (p := ⟨w1.heap.size, 4, none⟩) HO1.out.size (.int .i64 ((x0 * 60 + x1) * 60 + x2))); clear hK hKs hUn hp5)
              | (go_at_call 45; (with_reducible refine (CB.out _ HS6.out).mono ?_); rintro e wz ⟨pp, rfl, hX, hbb⟩; have HFz := Lib.hid (HF6.out.call hbb); have HXz := Lib.hid hX; have HBz := Lib.hid (thenB HB6.out hbb); clear hX hbb; have r0 := (HFz.out.2 0 (by omega)).1; have rf0 := (HFz.out.2 0 (by omega)).2; have r1 := (HFz.out.2 1 (by omega)).1; have rf1 := (HFz.out.2 1 (by omega)).2; have r2 := (HFz.out.2 2 (by omega)).1; have rf2 := (HFz.out.2 2 (by omega)).2; have r3 := (HFz.out.2 3 (by omega)).1; have rf3 := (HFz.out.2 3 (by omega)).2; have r4 := (HFz.out.2 4 (by omega)).1; have rf4 := (HFz.out.2 4 (by omega)).2))
            have hq := set_five wz w.heap.size (.int .i64 0) (.int .i64 0) (.int .i64 0) (.int .i64 0) (.int .i64 0) _ _ _ _ _ r0 r1 r2 r3 r4
            exact bodyPost_ret (v := .tuple #[.agg #[.int .i64 0, .int .i64 0, .int .i64 0, .int .i64 0, .int .i64 0], .iface 105 (.pointer (some ⟨pp, 0, none⟩))]) (by simp [results, Tryz.results40, go_sem, hq.1, hq.2.1, hq.2.2.1, hq.2.2.2.1, hq.2.2.2.2]) rfl ⟨below_set5 HBz.out (Nat.le_refl _) _ _ _ _ _, .inr ⟨by rw [HE2.out]; exact five_ne, _, rfl, by rw [HE2.out]; exact ((HXz.out.set5 HF6.out.1 _ _ _ _ _).mono HB6.out.size)⟩⟩
          · by_cases hlt : K5 < s.size
            · have HE2 := Lib.hid (HE.out.trans (perZ_bad (.inr hlt)))
              have hld : decide (K5 < s.size) = true := decide_eq_true hlt
              have hldi : decide ((K5 : Int) < (s.size : Int)) = true := decide_eq_true (by omega)
              go_enter Tryz.func40, Tryz.ntmps40
              go_wp2_with (first
                | (go_at_call 42; (with_reducible refine (C45.out _ HW2.out.1).mono ?_); rintro e w1 ⟨rfl, hS, hO⟩; have HS1 := Lib.hid hS; have HF1 := Lib.hid (HW2.out.2.1.only hO (by omega)); have HO1 := Lib.hid (hO.new HW2.out.2.2 (by omega)); have HL1 := Lib.hid hS.1; clear hS hO)
                | (go_at_call 42; (with_reducible refine (C80.out _ (HS1.out.alloc _)).mono ?_); rintro e w2 ⟨rfl, hS, hO⟩; have HS2 := Lib.hid hS; have HL2 := Lib.hid hS.1; have HF2 := Lib.hid ((HF1.out.call ((Below.refl _ _).alloc (Nat.le_refl _) _)).only hO (by omega)); have HP2 := Lib.hid ((Five.new w1 43).only hO (by have := HL1.out; omega)); have HO2 := Lib.hid (hO.new (HO1.out.alloc HO1.out.size _) (by omega)); clear hS hO)
                | (go_at_call 76; (with_reducible refine (CU.out w1.heap.size w2.heap.size _ (HS2.out.alloc _) (UnSt.four w2 (w.heap.size + 1) w1.heap.size zero HP2.out HL2.out (by have := HL1.out; omega) _)).mono ?_); rintro e w3 ⟨rfl, hK, hS, hKs, hUn⟩; have HS3 := Lib.hid hS; have HF3 := Lib.hid ((HF2.out.call ((Below.refl _ _).alloc (Nat.le_refl _) _)).kept hK (fun i _ => nf i _ _ _ _ (by omega) (fun j _ e => by have := congrArg Prod.fst e; have := HO1.out.size; have := HL1.out; simp at *; omega))); have HB3 := Lib.hid ((HO2.out.alloc HO2.out.size _).trans (hK.below (UnS.ge (by omega) (fun _ _ => HO1.out.size)) (by have := HO2.out.size; simp; omega))); have HP3 : Hid (Pcells w3 w1.heap.size a0 a1 a2 a3 0) := Lib.hid (P3 HP2.out hUn hK (by have := HL1.out; omega) HV.out.1 HV.out.2.1 HV.out.2.2.1 HV.out.2.2.2); clear hK hS hKs hUn)
                | (go_at_call 42; (with_reducible refine (C84.out _ HS3.out).mono ?_); rintro e w4 ⟨rfl, hS, hO⟩; have HS4 := Lib.hid hS; have HL4 := Lib.hid hS.1; have HF4 := Lib.hid (HF3.out.only hO (by omega)); have HB4 := Lib.hid (HB3.out.trans (hO.1.mono (by omega))); have HP4 := Lib.hid (P4 hO (by have := HL1.out; omega) HP3.out); obtain ⟨-, k0, k1, -⟩ := hS; clear hO)
                | (go_at_call 76; (with_reducible refine (CX.out w4.heap.size _ (((((HS4.out.alloc _).alloc _).alloc _).alloc _)) (UnSt.three w4 (w.heap.size + 1) HL4.out _ _)).mono ?_); rintro e w5 ⟨rfl, hK, hS, hKs, hUn⟩; have HS5 := Lib.hid hS; have HF5 := Lib.hid ((HF4.out.call (((((Below.refl _ w4).alloc (Nat.le_refl _) _).alloc (by simp) _).alloc (by simp; omega) _).alloc (by simp; omega) _)).kept hK (fun i _ => nf i _ _ _ _ (by omega) (fun j _ e => by have := congrArg Prod.fst e; have := HF4.out.1; simp at *; omega))); have HB5 := Lib.hid ((thenB HB4.out (((((Below.refl _ w4).alloc (Nat.le_refl _) _).alloc (by simp) _).alloc (by simp; omega) _).alloc (by simp; omega) _)).trans (hK.below (UnS.ge (by omega) (fun j _ => by have := HB4.out.size; show w.heap.size ≤ w4.heap.size + j; omega)) (by have := HB4.out.size; simp; omega))); have hp5 := P5 hK (show ∀ i, i < 5 → ¬ UnS (w.heap.size + 1) 3 (fun j => (w4.heap.size + j, 0)) ⟨w1.heap.size, i, none⟩ from fun i _ => nf i _ _ _ _ (by have := HL1.out; omega) (fun j _ e => by have := congrArg Prod.fst e; have := HP4.out.1; simp at *; omega)) (Pcells.call HP4.out (((((Below.refl _ w4).alloc (Nat.le_refl _) _).alloc (by simp) _).alloc (by simp; omega) _).alloc (by simp; omega) _)); have HP5 := Lib.hid hp5; have y0 : w5.cell? ⟨w4.heap.size, 0, none⟩ = some (.int .i64 x0) := ((hUn.2.2.2 0 (by omega)).2.2.2.2.1).trans (congrArg (fun z => some (Value.int .i64 z)) HVX.out.1); have y1 : w5.cell? ⟨w4.heap.size + 1, 0, none⟩ = some (.int .i64 x1) := ((hUn.2.2.2 1 (by omega)).2.2.2.2.1).trans (congrArg (fun z => some (Value.int .i64 z)) HVX.out.2.1); have y2 : w5.cell? ⟨w4.heap.size + 1 + 1, 0, none⟩ = some (.int .i64 x2) := ((hUn.2.2.2 2 (by omega)).2.2.2.2.1).trans (congrArg (fun z => some (Value.int .i64 z)) HVX.out.2.2); have z4 := hp5.2.2.2.2.2.1; have zf4 := hp5.2.2.2.2.2.2; obtain ⟨-, k0, k1, -⟩ := hS; have hne := (show w1.heap.size ≠ w.heap.size + 1 by have := HL1.out; omega); have HS6 := Lib.hid (HS5.out.set2 ⟨w1.heap.size, 4, none⟩ hne (.int .i64 ((x0 * 60 + x1) * 60 + x2))); have hnr := (show w1.heap.size ≠ w.heap.size by have := HO1.out.size; have := HL1.out; omega); have HF6 := Lib.hid (HF5.out.far (p := ⟨w1.heap.size, 4, none⟩) hnr (.int .i64 ((x0 * 60 + x1) * 60 + x2))); have HB6 := Lib.hid (HB5.out.setCell (p := ⟨w1.heap.size, 4, none⟩) HO1.out.size (.int .i64 ((x0 * 60 + x1) * 60 + x2))); clear hK hKs hUn hp5)
                | (go_at_call 45; (with_reducible refine (CB.out _ HS6.out).mono ?_); rintro e wz ⟨pp, rfl, hX, hbb⟩; have HFz := Lib.hid (HF6.out.call hbb); have HXz := Lib.hid hX; have HBz := Lib.hid (thenB HB6.out hbb); clear hX hbb; have r0 := (HFz.out.2 0 (by omega)).1; have rf0 := (HFz.out.2 0 (by omega)).2; have r1 := (HFz.out.2 1 (by omega)).1; have rf1 := (HFz.out.2 1 (by omega)).2; have r2 := (HFz.out.2 2 (by omega)).1; have rf2 := (HFz.out.2 2 (by omega)).2; have r3 := (HFz.out.2 3 (by omega)).1; have rf3 := (HFz.out.2 3 (by omega)).2; have r4 := (HFz.out.2 4 (by omega)).1; have rf4 := (HFz.out.2 4 (by omega)).2))
              have hq := set_five wz w.heap.size (.int .i64 0) (.int .i64 0) (.int .i64 0) (.int .i64 0) (.int .i64 0) _ _ _ _ _ r0 r1 r2 r3 r4
              exact bodyPost_ret (v := .tuple #[.agg #[.int .i64 0, .int .i64 0, .int .i64 0, .int .i64 0, .int .i64 0], .iface 105 (.pointer (some ⟨pp, 0, none⟩))]) (by simp [results, Tryz.results40, go_sem, hq.1, hq.2.1, hq.2.2.1, hq.2.2.2.1, hq.2.2.2.2]) rfl ⟨below_set5 HBz.out (Nat.le_refl _) _ _ _ _ _, .inr ⟨by rw [HE2.out]; exact five_ne, _, rfl, by rw [HE2.out]; exact ((HXz.out.set5 HF6.out.1 _ _ _ _ _).mono HB6.out.size)⟩⟩
            · have HE2 := Lib.hid (perZ_ok (v := U.val) (t := X.val) (b := true) rfl hlt)
              have hld : decide (K5 < s.size) = false := decide_eq_false hlt
              have hldi : decide ((K5 : Int) < (s.size : Int)) = false := decide_eq_false (by omega)
              go_enter Tryz.func40, Tryz.ntmps40
              go_wp2_with (first
                | (go_at_call 42; (with_reducible refine (C45.out _ HW2.out.1).mono ?_); rintro e w1 ⟨rfl, hS, hO⟩; have HS1 := Lib.hid hS; have HF1 := Lib.hid (HW2.out.2.1.only hO (by omega)); have HO1 := Lib.hid (hO.new HW2.out.2.2 (by omega)); have HL1 := Lib.hid hS.1; clear hS hO)
                | (go_at_call 42; (with_reducible refine (C80.out _ (HS1.out.alloc _)).mono ?_); rintro e w2 ⟨rfl, hS, hO⟩; have HS2 := Lib.hid hS; have HL2 := Lib.hid hS.1; have HF2 := Lib.hid ((HF1.out.call ((Below.refl _ _).alloc (Nat.le_refl _) _)).only hO (by omega)); have HP2 := Lib.hid ((Five.new w1 43).only hO (by have := HL1.out; omega)); have HO2 := Lib.hid (hO.new (HO1.out.alloc HO1.out.size _) (by omega)); clear hS hO)
                | (go_at_call 76; (with_reducible refine (CU.out w1.heap.size w2.heap.size _ (HS2.out.alloc _) (UnSt.four w2 (w.heap.size + 1) w1.heap.size zero HP2.out HL2.out (by have := HL1.out; omega) _)).mono ?_); rintro e w3 ⟨rfl, hK, hS, hKs, hUn⟩; have HS3 := Lib.hid hS; have HF3 := Lib.hid ((HF2.out.call ((Below.refl _ _).alloc (Nat.le_refl _) _)).kept hK (fun i _ => nf i _ _ _ _ (by omega) (fun j _ e => by have := congrArg Prod.fst e; have := HO1.out.size; have := HL1.out; simp at *; omega))); have HB3 := Lib.hid ((HO2.out.alloc HO2.out.size _).trans (hK.below (UnS.ge (by omega) (fun _ _ => HO1.out.size)) (by have := HO2.out.size; simp; omega))); have HP3 : Hid (Pcells w3 w1.heap.size a0 a1 a2 a3 0) := Lib.hid (P3 HP2.out hUn hK (by have := HL1.out; omega) HV.out.1 HV.out.2.1 HV.out.2.2.1 HV.out.2.2.2); clear hK hS hKs hUn)
                | (go_at_call 42; (with_reducible refine (C84.out _ HS3.out).mono ?_); rintro e w4 ⟨rfl, hS, hO⟩; have HS4 := Lib.hid hS; have HL4 := Lib.hid hS.1; have HF4 := Lib.hid (HF3.out.only hO (by omega)); have HB4 := Lib.hid (HB3.out.trans (hO.1.mono (by omega))); have HP4 := Lib.hid (P4 hO (by have := HL1.out; omega) HP3.out); obtain ⟨-, k0, k1, -⟩ := hS; clear hO)
                | (go_at_call 76; (with_reducible refine (CX.out w4.heap.size _ (((((HS4.out.alloc _).alloc _).alloc _).alloc _)) (UnSt.three w4 (w.heap.size + 1) HL4.out _ _)).mono ?_); rintro e w5 ⟨rfl, hK, hS, hKs, hUn⟩; have HS5 := Lib.hid hS; have HF5 := Lib.hid ((HF4.out.call (((((Below.refl _ w4).alloc (Nat.le_refl _) _).alloc (by simp) _).alloc (by simp; omega) _).alloc (by simp; omega) _)).kept hK (fun i _ => nf i _ _ _ _ (by omega) (fun j _ e => by have := congrArg Prod.fst e; have := HF4.out.1; simp at *; omega))); have HB5 := Lib.hid ((thenB HB4.out (((((Below.refl _ w4).alloc (Nat.le_refl _) _).alloc (by simp) _).alloc (by simp; omega) _).alloc (by simp; omega) _)).trans (hK.below (UnS.ge (by omega) (fun j _ => by have := HB4.out.size; show w.heap.size ≤ w4.heap.size + j; omega)) (by have := HB4.out.size; simp; omega))); have hp5 := P5 hK (show ∀ i, i < 5 → ¬ UnS (w.heap.size + 1) 3 (fun j => (w4.heap.size + j, 0)) ⟨w1.heap.size, i, none⟩ from fun i _ => nf i _ _ _ _ (by have := HL1.out; omega) (fun j _ e => by have := congrArg Prod.fst e; have := HP4.out.1; simp at *; omega)) (Pcells.call HP4.out (((((Below.refl _ w4).alloc (Nat.le_refl _) _).alloc (by simp) _).alloc (by simp; omega) _).alloc (by simp; omega) _)); have HP5 := Lib.hid hp5; have y0 : w5.cell? ⟨w4.heap.size, 0, none⟩ = some (.int .i64 x0) := ((hUn.2.2.2 0 (by omega)).2.2.2.2.1).trans (congrArg (fun z => some (Value.int .i64 z)) HVX.out.1); have y1 : w5.cell? ⟨w4.heap.size + 1, 0, none⟩ = some (.int .i64 x1) := ((hUn.2.2.2 1 (by omega)).2.2.2.2.1).trans (congrArg (fun z => some (Value.int .i64 z)) HVX.out.2.1); have y2 : w5.cell? ⟨w4.heap.size + 1 + 1, 0, none⟩ = some (.int .i64 x2) := ((hUn.2.2.2 2 (by omega)).2.2.2.2.1).trans (congrArg (fun z => some (Value.int .i64 z)) HVX.out.2.2); have z4 := hp5.2.2.2.2.2.1; have zf4 := hp5.2.2.2.2.2.2; obtain ⟨-, k0, k1, -⟩ := hS; have hne := (show w1.heap.size ≠ w.heap.size + 1 by have := HL1.out; omega); have HS6 := Lib.hid (HS5.out.set2 ⟨w1.heap.size, 4, none⟩ hne (.int .i64 ((x0 * 60 + x1) * 60 + x2))); have hnr := (show w1.heap.size ≠ w.heap.size by have := HO1.out.size; have := HL1.out; omega); have HF6 := Lib.hid (HF5.out.far (p := ⟨w1.heap.size, 4, none⟩) hnr (.int .i64 ((x0 * 60 + x1) * 60 + x2))); have HB6 := Lib.hid (HB5.out.setCell (p := ⟨w1.heap.size, 4, none⟩) HO1.out.size (.int .i64 ((x0 * 60 + x1) * 60 + x2))); clear hK hKs hUn hp5; have p0 := HP5.out.2.1.1; have p1 := HP5.out.2.2.1.1; have p2 := HP5.out.2.2.2.1.1; have p3 := HP5.out.2.2.2.2.1.1; have r0 := (HF5.out.2 0 (by omega)).1; have rf0 := (HF5.out.2 0 (by omega)).2; have r1 := (HF5.out.2 1 (by omega)).1; have rf1 := (HF5.out.2 1 (by omega)).2; have r2 := (HF5.out.2 2 (by omega)).1; have rf2 := (HF5.out.2 2 (by omega)).2; have r3 := (HF5.out.2 3 (by omega)).1; have rf3 := (HF5.out.2 3 (by omega)).2; have r4 := (HF5.out.2 4 (by omega)).1; have rf4 := (HF5.out.2 4 (by omega)).2; have q0 := (HF6.out.2 0 (by omega)).1; have qf0 := (HF6.out.2 0 (by omega)).2; have q1 := (HF6.out.2 1 (by omega)).1; have qf1 := (HF6.out.2 1 (by omega)).2; have q2 := (HF6.out.2 2 (by omega)).1; have qf2 := (HF6.out.2 2 (by omega)).2; have q3 := (HF6.out.2 3 (by omega)).1; have qf3 := (HF6.out.2 3 (by omega)).2; have q4 := (HF6.out.2 4 (by omega)).1; have qf4 := (HF6.out.2 4 (by omega)).2))
              have hq := set_five (w5.setCell ⟨w1.heap.size, 4, none⟩ (.int .i64 ((x0 * 60 + x1) * 60 + x2))) w.heap.size (.int .i64 (-a0)) (.int .i64 (-a1)) (.int .i64 (-a2)) (.int .i64 (-a3)) (.int .i64 (-((x0 * 60 + x1) * 60 + x2))) _ _ _ _ _ q0 q1 q2 q3 q4
              exact bodyPost_ret (v := .tuple #[.agg #[.int .i64 (-a0), .int .i64 (-a1), .int .i64 (-a2), .int .i64 (-a3), .int .i64 (-((x0 * 60 + x1) * 60 + x2))], .nilIface]) (by simp [results, Tryz.results40, go_sem, hq.1, hq.2.1, hq.2.2.1, hq.2.2.2.1, hq.2.2.2.2]) rfl ⟨below_set5 HB6.out (Nat.le_refl _) _ _ _ _ _, .inl ⟨by rw [HE.out]; exact HE2.out.1, by unfold agg5; rw [HE.out, HE2.out.2.1, HE2.out.2.2.1, HE2.out.2.2.2.1, HE2.out.2.2.2.2.1, HE2.out.2.2.2.2.2.1, HSG.out, HV.out.1, HV.out.2.1, HV.out.2.2.1, HV.out.2.2.2, HVX.out.1, HVX.out.2.1, HVX.out.2.2]; simp⟩⟩
        · replace CX : Hid (∀ (b0 : Nat) (w0 : World), ScanAt (w.heap.size + 1) s ((K : Int) + 1) w0 → UnSt (w.heap.size + 1) (b0 + 3) 3 (fun j => (b0 + j, 0)) zero w0 → Calls Tryz.prog 76 #[.pointer (some ⟨w.heap.size + 1, 0, none⟩), .string ⟨#[72, 77, 83]⟩, .slice (some ⟨b0 + 3, 0, none⟩) 3 3] w0 fun e w' => ∃ p : Nat, e = .returned (.tuple #[.bool false, .iface 105 (.pointer (some ⟨p, 0, none⟩))]) ∧ KeptOf (UnS (w.heap.size + 1) 3 (fun j => (b0 + j, 0))) w0 w' ∧ AtBox w0.heap.size X.err X.at_ (.iface 105 (.pointer (some ⟨p, 0, none⟩))) w') := Lib.hid fun b0 w0 h h2 => (CX.out b0 w0 h h2).mono fun e w' ⟨h3, h4⟩ => by
            rcases h4 with ⟨h5, -⟩ | ⟨-, v, h6, h7⟩
            · exact absurd h5 hX0
            · obtain ⟨p, rfl, h8⟩ := h7
              exact ⟨p, h6, h3, p, rfl, h8⟩
          rw [if_neg hX0] at HE
          have HX0 := Lib.hid hX0
          clear hX0
          go_enter Tryz.func40, Tryz.ntmps40
          go_wp2_with (first
            | (go_at_call 42; (with_reducible refine (C45.out _ HW2.out.1).mono ?_); rintro e w1 ⟨rfl, hS, hO⟩; have HS1 := Lib.hid hS; have HF1 := Lib.hid (HW2.out.2.1.only hO (by omega)); have HO1 := Lib.hid (hO.new HW2.out.2.2 (by omega)); have HL1 := Lib.hid hS.1; clear hS hO)
            | (go_at_call 42; (with_reducible refine (C80.out _ (HS1.out.alloc _)).mono ?_); rintro e w2 ⟨rfl, hS, hO⟩; have HS2 := Lib.hid hS; have HL2 := Lib.hid hS.1; have HF2 := Lib.hid ((HF1.out.call ((Below.refl _ _).alloc (Nat.le_refl _) _)).only hO (by omega)); have HP2 := Lib.hid ((Five.new w1 43).only hO (by have := HL1.out; omega)); have HO2 := Lib.hid (hO.new (HO1.out.alloc HO1.out.size _) (by omega)); clear hS hO)
            | (go_at_call 76; (with_reducible refine (CU.out w1.heap.size w2.heap.size _ (HS2.out.alloc _) (UnSt.four w2 (w.heap.size + 1) w1.heap.size zero HP2.out HL2.out (by have := HL1.out; omega) _)).mono ?_); rintro e w3 ⟨rfl, hK, hS, hKs, hUn⟩; have HS3 := Lib.hid hS; have HF3 := Lib.hid ((HF2.out.call ((Below.refl _ _).alloc (Nat.le_refl _) _)).kept hK (fun i _ => nf i _ _ _ _ (by omega) (fun j _ e => by have := congrArg Prod.fst e; have := HO1.out.size; have := HL1.out; simp at *; omega))); have HB3 := Lib.hid ((HO2.out.alloc HO2.out.size _).trans (hK.below (UnS.ge (by omega) (fun _ _ => HO1.out.size)) (by have := HO2.out.size; simp; omega))); have HP3 : Hid (Pcells w3 w1.heap.size a0 a1 a2 a3 0) := Lib.hid (P3 HP2.out hUn hK (by have := HL1.out; omega) HV.out.1 HV.out.2.1 HV.out.2.2.1 HV.out.2.2.2); clear hK hS hKs hUn)
            | (go_at_call 42; (with_reducible refine (C84.out _ HS3.out).mono ?_); rintro e w4 ⟨rfl, hS, hO⟩; have HS4 := Lib.hid hS; have HL4 := Lib.hid hS.1; have HF4 := Lib.hid (HF3.out.only hO (by omega)); have HB4 := Lib.hid (HB3.out.trans (hO.1.mono (by omega))); have HP4 := Lib.hid (P4 hO (by have := HL1.out; omega) HP3.out); obtain ⟨-, k0, k1, -⟩ := hS; clear hO)
            | (go_at_call 76; (with_reducible refine (CX.out w4.heap.size _ (((((HS4.out.alloc _).alloc _).alloc _).alloc _)) (UnSt.three w4 (w.heap.size + 1) HL4.out _ _)).mono ?_); rintro e w5 ⟨p, rfl, hK, hA⟩; have HF5 := Lib.hid ((HF4.out.call (((((Below.refl _ w4).alloc (Nat.le_refl _) _).alloc (by simp) _).alloc (by simp; omega) _).alloc (by simp; omega) _)).kept hK (fun i _ => nf i _ _ _ _ (by omega) (fun j _ e => by have := congrArg Prod.fst e; have := HF4.out.1; simp at *; omega))); have HB5 := Lib.hid ((thenB HB4.out (((((Below.refl _ w4).alloc (Nat.le_refl _) _).alloc (by simp) _).alloc (by simp; omega) _).alloc (by simp; omega) _)).trans (hK.below (UnS.ge (by omega) (fun j _ => by have := HB4.out.size; show w.heap.size ≤ w4.heap.size + j; omega)) (by have := HB4.out.size; simp; omega))); have HX5 := Lib.hid (hA.mono (show w.heap.size + 1 ≤ _ by have := HF4.out.1; simp; omega)); clear hK hA; have r0 := (HF5.out.2 0 (by omega)).1; have rf0 := (HF5.out.2 0 (by omega)).2; have r1 := (HF5.out.2 1 (by omega)).1; have rf1 := (HF5.out.2 1 (by omega)).2; have r2 := (HF5.out.2 2 (by omega)).1; have rf2 := (HF5.out.2 2 (by omega)).2; have r3 := (HF5.out.2 3 (by omega)).1; have rf3 := (HF5.out.2 3 (by omega)).2; have r4 := (HF5.out.2 4 (by omega)).1; have rf4 := (HF5.out.2 4 (by omega)).2))
          have hq := set_five w5 w.heap.size (.int .i64 0) (.int .i64 0) (.int .i64 0) (.int .i64 0) (.int .i64 0) _ _ _ _ _ r0 r1 r2 r3 r4
          exact bodyPost_ret (v := .tuple #[.agg #[.int .i64 0, .int .i64 0, .int .i64 0, .int .i64 0, .int .i64 0], .iface 105 (.pointer (some ⟨p, 0, none⟩))]) (by simp [results, Tryz.results40, go_sem, hq.1, hq.2.1, hq.2.2.1, hq.2.2.2.1, hq.2.2.2.2]) rfl ⟨below_set5 HB5.out (Nat.le_refl _) _ _ _ _ _, .inr ⟨by rw [HE.out]; exact HX0.out, _, rfl, by rw [HE.out]; exact ((HX5.out.set5 (Nat.lt_succ_self _) _ _ _ _ _).mono (Nat.le_succ _))⟩⟩
    · replace CU : Hid (∀ (PB TB : Nat) (w0 : World), ScanAt (w.heap.size + 1) s (1 + 1) w0 → UnSt (w.heap.size + 1) TB 4 (fun j => (PB, j)) zero w0 → Calls Tryz.prog 76 #[.pointer (some ⟨w.heap.size + 1, 0, none⟩), .string ⟨#[89, 77, 87, 68]⟩, .slice (some ⟨TB, 0, none⟩) 4 4] w0 fun e w' => ∃ p : Nat, e = .returned (.tuple #[.bool false, .iface 105 (.pointer (some ⟨p, 0, none⟩))]) ∧ KeptOf (UnS (w.heap.size + 1) 4 (fun j => (PB, j))) w0 w' ∧ AtBox w0.heap.size U.err U.at_ (.iface 105 (.pointer (some ⟨p, 0, none⟩))) w') := Lib.hid fun PB TB w0 h h2 => (CU.out PB TB w0 h h2).mono fun e w' ⟨h3, h4⟩ => by
        rcases h4 with ⟨h5, -⟩ | ⟨-, v, h6, h7⟩
        · exact absurd h5 hU0
        · obtain ⟨p, rfl, h8⟩ := h7
          exact ⟨p, h6, h3, p, rfl, h8⟩
      have HE2 : Hid (perF s.data.toList = ⟨U.err, U.at_, zero⟩) := Lib.hid (HE.out.trans (perT_err hU0))
      have HU0 := Lib.hid hU0
      clear hU0
      go_enter Tryz.func40, Tryz.ntmps40
      go_wp2_with (first
        | (go_at_call 42; (with_reducible refine (C45.out _ HW2.out.1).mono ?_); rintro e w1 ⟨rfl, hS, hO⟩; have HS1 := Lib.hid hS; have HF1 := Lib.hid (HW2.out.2.1.only hO (by omega)); have HO1 := Lib.hid (hO.new HW2.out.2.2 (by omega)); have HL1 := Lib.hid hS.1; clear hS hO)
        | (go_at_call 42; (with_reducible refine (C80.out _ (HS1.out.alloc _)).mono ?_); rintro e w2 ⟨rfl, hS, hO⟩; have HS2 := Lib.hid hS; have HL2 := Lib.hid hS.1; have HF2 := Lib.hid ((HF1.out.call ((Below.refl _ _).alloc (Nat.le_refl _) _)).only hO (by omega)); have HP2 := Lib.hid ((Five.new w1 43).only hO (by have := HL1.out; omega)); have HO2 := Lib.hid (hO.new (HO1.out.alloc HO1.out.size _) (by omega)); clear hS hO)
        | (go_at_call 76; (with_reducible refine (CU.out w1.heap.size w2.heap.size _ (HS2.out.alloc _) (UnSt.four w2 (w.heap.size + 1) w1.heap.size zero HP2.out HL2.out (by have := HL1.out; omega) _)).mono ?_); rintro e w3 ⟨p, rfl, hK, hA⟩; have HF3 := Lib.hid ((HF2.out.call ((Below.refl _ _).alloc (Nat.le_refl _) _)).kept hK (fun i _ => nf i _ _ _ _ (by omega) (fun j _ e => by have := congrArg Prod.fst e; have := HO1.out.size; have := HL1.out; simp at *; omega))); have HB3 := Lib.hid ((HO2.out.alloc HO2.out.size _).trans (hK.below (UnS.ge (by omega) (fun _ _ => HO1.out.size)) (by have := HO2.out.size; simp; omega))); have HX3 := Lib.hid (hA.mono (show w.heap.size + 1 ≤ _ by have := HF2.out.1; simp; omega)); clear hK hA; have r0 := (HF3.out.2 0 (by omega)).1; have rf0 := (HF3.out.2 0 (by omega)).2; have r1 := (HF3.out.2 1 (by omega)).1; have rf1 := (HF3.out.2 1 (by omega)).2; have r2 := (HF3.out.2 2 (by omega)).1; have rf2 := (HF3.out.2 2 (by omega)).2; have r3 := (HF3.out.2 3 (by omega)).1; have rf3 := (HF3.out.2 3 (by omega)).2; have r4 := (HF3.out.2 4 (by omega)).1; have rf4 := (HF3.out.2 4 (by omega)).2))
      have hq := set_five w3 w.heap.size (.int .i64 0) (.int .i64 0) (.int .i64 0) (.int .i64 0) (.int .i64 0) _ _ _ _ _ r0 r1 r2 r3 r4
      exact bodyPost_ret (v := .tuple #[.agg #[.int .i64 0, .int .i64 0, .int .i64 0, .int .i64 0, .int .i64 0], .iface 105 (.pointer (some ⟨p, 0, none⟩))]) (by simp [results, Tryz.results40, go_sem, hq.1, hq.2.1, hq.2.2.1, hq.2.2.2.1, hq.2.2.2.2]) rfl ⟨below_set5 HB3.out (Nat.le_refl _) _ _ _ _ _, .inr ⟨by rw [HE2.out]; exact HU0.out, _, rfl, by rw [HE2.out]; exact ((HX3.out.set5 (Nat.lt_succ_self _) _ _ _ _ _).mono (Nat.le_succ _))⟩⟩
end Go.Proofs.YtkfpnlenmdlmjaaGreatDoor
