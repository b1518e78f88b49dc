/- The parts of a stamp's text, as the document reads them: zone and clock. Printed by a program of mine. -/
import Derived.Test.YtkfpnlenmdlmjaaGreatDoorZG7
namespace Go.Proofs.YtkfpnlenmdlmjaaGreatDoor
open Go.RowKit Scm
/-- Two numbers in a box. -/
def L2 (B : Nat) (x0 x1 : Value) (w : World) : Prop := B < w.heap.size ∧ (w.cell? ⟨B, 0, none⟩ = some x0 ∧ w.frozen? ⟨B, 0, none⟩ = false) ∧ (w.cell? ⟨B, 1, none⟩ = some x1 ∧ w.frozen? ⟨B, 1, none⟩ = false)
theorem L2.new (w : World) (t : TypeId) : L2 w.heap.size (.int .i64 0) (.int .i64 0) (w.alloc (.cells #[.int .i64 0, .int .i64 0] t)) := ⟨by simp, ⟨by simp, by simp⟩, ⟨by simp, by simp⟩⟩
theorem L2.drewN {B : Nat} {x0 x1 : Value} {w : World} (h : L2 B x0 x1 w) (q : Nat) : L2 B x0 x1 (w.drewN q) := h
theorem L2.only {B b : Nat} {x0 x1 : Value} {w w' : World} (h : L2 B x0 x1 w) (hO : Only b w w') (hne : B ≠ b) : L2 B x0 x1 w' := by
  obtain ⟨h0, ⟨c0, f0⟩, ⟨c1, f1⟩⟩ := h
  exact ⟨Nat.lt_of_lt_of_le h0 hO.1.size, ⟨(hO.cell (p := ⟨B, 0, none⟩) h0 hne).trans c0, (hO.frozen (p := ⟨B, 0, none⟩) h0 hne).trans f0⟩, ⟨(hO.cell (p := ⟨B, 1, none⟩) h0 hne).trans c1, (hO.frozen (p := ⟨B, 1, none⟩) h0 hne).trans f1⟩⟩
theorem L2.call {B : Nat} {x0 x1 : Value} {w w' : World} (h : L2 B x0 x1 w) (hb : Below w.heap.size w w') : L2 B x0 x1 w' := h.only (b := w.heap.size) (Only.of hb (Nat.le_refl _)) (Nat.ne_of_lt h.1)
theorem L2.far {B : Nat} {x0 x1 : Value} {w : World} (h : L2 B x0 x1 w) {p : Addr} (hp : B ≠ p.block) (v : Value) : L2 B x0 x1 (w.setCell p v) := by
  obtain ⟨h0, ⟨c0, f0⟩, ⟨c1, f1⟩⟩ := h
  have far : ∀ i, (w.setCell p v).cell? ⟨B, i, none⟩ = w.cell? ⟨B, i, none⟩ := fun i => World.cell?_setCell_other _ _ _ _ (by intro e; exact hp (congrArg Addr.block e).symm)
  exact ⟨by simp [World.setCell]; exact h0, ⟨(far 0).trans c0, by rw [World.frozen?_setCell]; exact f0⟩, ⟨(far 1).trans c1, by rw [World.frozen?_setCell]; exact f1⟩⟩
theorem L2.put {B : Nat} {x0 x1 : Value} {w : World} (h : L2 B x0 x1 w) (y0 y1 : Value) : L2 B y0 y1 ((w.setCell ⟨B, 0, none⟩ y0).setCell ⟨B, 1, none⟩ y1) := by
  obtain ⟨h0, ⟨c0, f0⟩, ⟨c1, f1⟩⟩ := h
  refine ⟨by simp [World.setCell]; exact h0, ⟨?_, by rw [World.frozen?_setCell, World.frozen?_setCell]; exact f0⟩, ⟨?_, by rw [World.frozen?_setCell, World.frozen?_setCell]; exact f1⟩⟩
  · rw [far3 _ _ 0 1 _ (by decide)]; exact World.cell?_setCell_same _ _ _ c0
  · exact World.cell?_setCell_same _ _ _ (by rw [far3 _ _ 1 0 _ (by decide)]; exact c1)
theorem ScanAt.res {b B : Nat} {s : ByteArray} {k : Int} {w : World} (h : ScanAt b s k w) (hb : b < B) (y0 y1 : Value) : ScanAt b s k ((w.setCell ⟨B, 0, none⟩ y0).setCell ⟨B, 1, none⟩ y1) :=
  (h.off ⟨B, 0, none⟩ (Nat.ne_of_gt hb) y0).off ⟨B, 1, none⟩ (Nat.ne_of_gt hb) y1
theorem Only.res {b : Nat} {w w' : World} (h : Only b w w') (hb : b < w.heap.size) (y0 y1 : Value) : Only b w ((w'.setCell ⟨w.heap.size, 0, none⟩ y0).setCell ⟨w.heap.size, 1, none⟩ y1) := (h.above hb 0 y0).above hb 1 y1
theorem ScanAt.set1 {b k : Nat} {s : ByteArray} {w : World} (h : ScanAt b s (k : Int) w) : ScanAt b s ((k + 1 : Nat) : Int) (w.setCell ⟨b, 1, none⟩ (.int .i64 ((k : Int) + 1))) := h.set _
theorem nxt_yes {s : ByteArray} {k : Nat} {c : UInt8} (h : isB s k c = true) : nxt s k = c := by
  unfold nxt; rw [List.getD, isB_iff.1 h]; rfl
theorem nxt_no {s : ByteArray} {k : Nat} {c : UInt8} (h : isB s k c = false) (hc : c ≠ 0) : nxt s k ≠ c := by
  intro e
  unfold nxt at e
  cases hh : s.data.toList[k]? with
  | none => rw [List.getD, hh] at e; exact hc e.symm
  | some x => rw [List.getD, hh] at e; have e2 : x = c := e; rw [e2] at hh; rw [isB_iff.2 hh] at h; exact Bool.noConfusion h
theorem nxt_ne {s : ByteArray} {k n : Nat} {c : UInt8} (h : isB s k c = false) (hc : c ≠ 0) (hn : c.toNat = n) : (nxt s k).toNat ≠ n := by
  intro e; exact nxt_no h hc (UInt8.toNat_inj.1 (e.trans hn.symm))
theorem fineR_any (w : World) : Calls Tryz.prog 29 #[] w fun e w' => e = .returned (.agg #[.int .i64 0, .int .i64 (-1)]) ∧ Below w.heap.size w w' := by
  go_enter Tryz.func29, Tryz.ntmps29
  go_wp2_with fail
  exact bodyPost_ret (v := .agg #[.int .i64 0, .int .i64 (-1)]) (by simp [results, Tryz.results29, go_sem]) rfl ⟨rfl, (Below.refl _ _).alloc (Nat.le_refl _) _⟩
theorem badR_any (x : Int) (w : World) : Calls Tryz.prog 28 #[.int .i64 x] w fun e w' => e = .returned (.agg #[.int .i64 x, .int .i64 (-1)]) ∧ Below w.heap.size w w' := by
  go_enter Tryz.func28, Tryz.ntmps28
  go_wp2_with fail
  exact bodyPost_ret (v := .agg #[.int .i64 x, .int .i64 (-1)]) (by simp [results, Tryz.results28, go_sem]) rfl ⟨rfl, (Below.refl _ _).alloc (Nat.le_refl _) _⟩
/-- What the document's parts answer. -/
def RzPost (b : Nat) (s : ByteArray) (P : ZnP) (w : World) (e : Ending) (w' : World) : Prop :=
  ∃ K O, e = .returned (.tuple #[.int .i64 K, .int .i64 O, .agg #[.int .i64 P.err, .int .i64 P.place]]) ∧ (P.err = 0 → K = P.kind ∧ O = P.off) ∧ ScanAt b s (P.at_ : Int) w' ∧ Only b w w'
def RcPost (b : Nat) (s : ByteArray) (P : CkP) (w : World) (e : Ending) (w' : World) : Prop :=
  ∃ K, e = .returned (.tuple #[.int .i64 K, .agg #[.int .i64 P.err, .int .i64 P.place]]) ∧ (P.err = 0 → K = P.sec) ∧ ScanAt b s (P.at_ : Int) w' ∧ Only b w w'
def RdPost (b : Nat) (s : ByteArray) (P : DayP) (w : World) (e : Ending) (w' : World) : Prop :=
  ∃ D, e = .returned (.tuple #[.int .i64 D, .bool P.wide, .agg #[.int .i64 P.err, .int .i64 P.place]]) ∧ (P.err = 0 → D = P.day) ∧ ScanAt b s (P.at_ : Int) w' ∧ Only b w w'
theorem Only.set1 {b k : Nat} {w w' : World} (h : Only b w w') : Only b w (w'.setCell ⟨b, 1, none⟩ (.int .i64 ((k : Int) + 1))) := h.setCell 1 _
theorem L2.set1 {B b k : Nat} {x0 x1 : Value} {w : World} (h : L2 B x0 x1 w) (hb : B ≠ b) : L2 B x0 x1 (w.setCell ⟨b, 1, none⟩ (.int .i64 ((k : Int) + 1))) := h.far (p := ⟨b, 1, none⟩) hb _
set_option maxRecDepth 100000 in
set_option maxHeartbeats 16000000 in
theorem rzone_any (b : Nat) (s : ByteArray) (k : Nat) (wd : Bool) (w : World) (h : ScanAt b s k w) (hs : s.size ≤ 9223372036854775807) :
    Calls Tryz.prog 25 #[.pointer (some ⟨b, 0, none⟩), .bool wd] w (RzPost b s (zoneP s wd k) w) := by
  have HBL : Hid (b < w.heap.size) := Lib.hid h.1
  have HBW : Hid (b ≤ w.heap.size) := Lib.hid (Nat.le_of_lt h.1)
  have S0 : Hid (ScanAt b s (k : Int) (w.alloc (.cells #[.int .i64 0, .int .i64 0] 29))) := Lib.hid (h.alloc _)
  have O0 : Hid (Only b w (w.alloc (.cells #[.int .i64 0, .int .i64 0] 29))) := Lib.hid ((Only.refl b w).alloc (Nat.le_of_lt h.1) _)
  have L0 : Hid (L2 w.heap.size (.int .i64 0) (.int .i64 0) (w.alloc (.cells #[.int .i64 0, .int .i64 0] 29))) := Lib.hid (L2.new w _)
  clear h
  go_enter Tryz.func25, Tryz.ntmps25
  rcases bool_or (isB s (k) 90) with h1 | h1
  · have C1 : Hid (∀ w0, ScanAt b s ((k : Nat) : Int) w0 → Calls Tryz.prog 23 #[.pointer (some ⟨b, 0, none⟩), .int .u8 90] w0 fun e w' => e = .returned (.bool false) ∧ ScanAt b s ((k : Nat) : Int) w' ∧ Only b w0 w') := Lib.hid fun w0 h => by
        have q := ris_any b s (k) 90 w0 h hs
        rw [h1, isK_no h1] at q
        exact q
    have F1 := Lib.hid h1; clear h1
    rcases bool_or (isB s k 45) with hM | hM
    · rcases bool_or (isB s k 43) with hP | hP
      · obtain ⟨X, hX⟩ : ∃ X, (nxt s k).toNat = X := ⟨_, rfl⟩
        have x45 : (X == 45) = false := by rw [← hX]; simpa using nxt_ne (n := 45) hM (by decide) rfl
        have x43 : (X == 43) = false := by rw [← hX]; simpa using nxt_ne (n := 43) hP (by decide) rfl
        have x45i : ((X : Int) == 45) = false := by simp at x45; simp; omega
        have x43i : ((X : Int) == 43) = false := by simp at x43; simp; omega
        have C2 : Hid (∀ w0, ScanAt b s ((k : Nat) : Int) w0 → Calls Tryz.prog 48 #[.pointer (some ⟨b, 0, none⟩)] w0 fun e w' => e = .returned (.int .u8 (X : Int)) ∧ ∃ q, w' = w0.drewN q) := Lib.hid fun w0 h => (next_any b s (k) w0 h).mono fun e w' ⟨h1, h2⟩ => ⟨by rw [h1, hX], h2⟩
        have C3 : Hid (∀ w0, ScanAt b s ((k : Nat) : Int) w0 → Calls Tryz.prog 48 #[.pointer (some ⟨b, 0, none⟩)] w0 fun e w' => e = .returned (.int .u8 (X : Int)) ∧ ∃ q, w' = w0.drewN q) := Lib.hid fun w0 h => (next_any b s (k) w0 h).mono fun e w' ⟨h1, h2⟩ => ⟨by rw [h1, hX], h2⟩
        have HP : Hid (zoneP s wd k = ⟨0, 0, 0, -1, k⟩) := Lib.hid (by simp [zoneP, F1.out, hM, hP])
        have CFI : Hid (∀ w0, Calls Tryz.prog 29 #[] w0 fun e w' => e = .returned (.agg #[.int .i64 0, .int .i64 (-1)]) ∧ Below w0.heap.size w0 w') := Lib.hid fineR_any
        go_wp2_with (first
          | (go_at_call 23; (with_reducible refine (C1.out _ S0.out).mono ?_); rintro e w1 ⟨rfl, hS, hO⟩; have S1 := Lib.hid hS; have O1 := Lib.hid (O0.out.trans hO); have L1 := Lib.hid (L0.out.only hO (by have := HBL.out; omega)); obtain ⟨-, ⟨c0, f0⟩, ⟨c1, f1⟩⟩ := L1.out; obtain ⟨-, -, k1, kf⟩ := hS; clear hO)
          | (go_at_call 48; (with_reducible refine (C2.out _ S1.out).mono ?_); rintro e w2 ⟨rfl, q, rfl⟩; have hsa := S1.out.drewN q; have hoa := O1.out.drewN q; have hla := L1.out.drewN q; (try simp only [World.drewN_drewN] at hsa hoa hla); have S2 := Lib.hid hsa; have O2 := Lib.hid hoa; have L2 := Lib.hid hla; clear hsa hoa hla)
          | (go_at_call 48; (with_reducible refine (C3.out _ S2.out).mono ?_); rintro e w3 ⟨rfl, q, rfl⟩; have hsa := S2.out.drewN q; have hoa := O2.out.drewN q; have hla := L2.out.drewN q; (try simp only [World.drewN_drewN] at hsa hoa hla); have S3 := Lib.hid hsa; have O3 := Lib.hid hoa; have L3 := Lib.hid hla; clear hsa hoa hla)
          | (go_at_call 29; (with_reducible refine (CFI.out _).mono ?_); rintro e wz ⟨rfl, hb⟩; have HSZ := Lib.hid (S3.out.call hb); have HOZ := Lib.hid (O3.out.then hb HBW.out); have HLZ := Lib.hid (L3.out.call hb); obtain ⟨-, ⟨c0, f0⟩, ⟨c1, f1⟩⟩ := HLZ.out; clear hb))
        have hq := HLZ.out.put (.int .i64 0) (.int .i64 (-1))
        exact bodyPost_ret (v := .tuple #[.int .i64 (0), .int .i64 (0), .agg #[.int .i64 0, .int .i64 (-1)]]) (by simp [results, Tryz.results25, go_sem, hq.2.1.1, hq.2.2.1]) rfl ⟨0, 0, by rw [HP.out], by rw [HP.out]; exact fun _ => ⟨rfl, by first | rfl | (dsimp only; omega)⟩, by rw [HP.out]; exact ScanAt.res HSZ.out HBL.out _ _, HOZ.out.res HBL.out _ _⟩
      · have hv := nxt_yes hP
        have hkl := isB_lt hP
        have C4 : Hid (∀ w0, ScanAt b s ((k : Nat) : Int) w0 → Calls Tryz.prog 48 #[.pointer (some ⟨b, 0, none⟩)] w0 fun e w' => e = .returned (.int .u8 43) ∧ ∃ q, w' = w0.drewN q) := Lib.hid fun w0 h => (next_any b s (k) w0 h).mono fun e w' ⟨h1, h2⟩ => ⟨by rw [h1, hv]; rfl, h2⟩
        have C5 : Hid (∀ w0, ScanAt b s ((k : Nat) : Int) w0 → Calls Tryz.prog 48 #[.pointer (some ⟨b, 0, none⟩)] w0 fun e w' => e = .returned (.int .u8 43) ∧ ∃ q, w' = w0.drewN q) := Lib.hid fun w0 h => (next_any b s (k) w0 h).mono fun e w' ⟨h1, h2⟩ => ⟨by rw [h1, hv]; rfl, h2⟩
        go_wp2_with (first
          | (go_at_call 23; (with_reducible refine (C1.out _ S0.out).mono ?_); rintro e w1 ⟨rfl, hS, hO⟩; have S1 := Lib.hid hS; have O1 := Lib.hid (O0.out.trans hO); have L1 := Lib.hid (L0.out.only hO (by have := HBL.out; omega)); obtain ⟨-, ⟨c0, f0⟩, ⟨c1, f1⟩⟩ := L1.out; obtain ⟨-, -, k1, kf⟩ := hS; clear hO)
          | (go_at_call 48; (with_reducible refine (C4.out _ S1.out).mono ?_); rintro e w4 ⟨rfl, q, rfl⟩; have hsa := S1.out.drewN q; have hoa := O1.out.drewN q; have hla := L1.out.drewN q; (try simp only [World.drewN_drewN] at hsa hoa hla); have S4 := Lib.hid hsa; have O4 := Lib.hid hoa; have L4 := Lib.hid hla; clear hsa hoa hla)
          | (go_at_call 48; (with_reducible refine (C5.out _ S4.out).mono ?_); rintro e w5 ⟨rfl, q, rfl⟩; have hsa := S4.out.drewN q; have hoa := O4.out.drewN q; have hla := L4.out.drewN q; (try simp only [World.drewN_drewN] at hsa hoa hla); have S5 := Lib.hid hsa; have O5 := Lib.hid hoa; have L5 := Lib.hid hla; clear hsa hoa hla; have hsa := ScanAt.set1 S5.out; have hoa := Only.set1 (k := k) O5.out; have hla := L2.set1 (b := b) (k := k) L5.out (by have := HBL.out; omega); (try simp only [World.drewN_drewN] at hsa hoa hla); have SA6 := Lib.hid hsa; have OA6 := Lib.hid hoa; have LA6 := Lib.hid hla; clear hsa hoa hla))
        rcases bool_or (dgB s (k + 1) 2) with h7 | h7
        · have C7 : Hid (∀ w0, ScanAt b s ((k + 1 : Nat) : Int) w0 → Calls Tryz.prog 49 #[.pointer (some ⟨b, 0, none⟩), .int .i64 2] w0 fun e w' => e = .returned (.tuple #[.int .i64 ((dgN s (k + 1) 2 : Nat) : Int), .bool false]) ∧ ScanAt b s ((dgK s (k + 1) 2 : Nat) : Int) w' ∧ Only b w0 w') := Lib.hid fun w0 h => by
              have q := take_any b s (k + 1) 2 2 rfl w0 h hkl hs (by omega)
              rw [h7] at q
              exact q
          have hx7 := dgN_lt s (k + 1) 2
          have F7 := Lib.hid h7; clear h7
          have HP : Hid (zoneP s wd k = ⟨0, 0, 5, ((dgK s (k + 1) 2 : Nat) : Int), dgK s (k + 1) 2⟩) := Lib.hid (by simp [zoneP, znP, badZ, F1.out, hM, hP, F7.out])
          have CFO : Hid (∀ w0, ScanAt b s ((dgK s (k + 1) 2 : Nat) : Int) w0 → Calls Tryz.prog 26 #[.pointer (some ⟨b, 0, none⟩)] w0 fun e w' => e = .returned (.agg #[.int .i64 5, .int .i64 ((dgK s (k + 1) 2 : Nat) : Int)]) ∧ Below w0.heap.size w0 w') := Lib.hid fun w0 h => form_any b s (dgK s (k + 1) 2) w0 h
          go_wp2_with (first
            | (go_at_call 49; (with_reducible refine (C7.out _ SA6.out).mono ?_); rintro e w7 ⟨rfl, hS, hO⟩; have S7 := Lib.hid hS; have O7 := Lib.hid (OA6.out.trans hO); have L7 := Lib.hid (LA6.out.only hO (by have := HBL.out; omega)); obtain ⟨-, ⟨c0, f0⟩, ⟨c1, f1⟩⟩ := L7.out; obtain ⟨-, -, k1, kf⟩ := hS; clear hO)
            | (go_at_call 26; (with_reducible refine (CFO.out _ S7.out).mono ?_); rintro e wz ⟨rfl, hb⟩; have HSZ := Lib.hid (S7.out.call hb); have HOZ := Lib.hid (O7.out.then hb HBW.out); have HLZ := Lib.hid (L7.out.call hb); obtain ⟨-, ⟨c0, f0⟩, ⟨c1, f1⟩⟩ := HLZ.out; clear hb))
          have hq := HLZ.out.put (.int .i64 5) (.int .i64 (((dgK s (k + 1) 2 : Nat) : Int)))
          exact bodyPost_ret (v := .tuple #[.int .i64 (0), .int .i64 (0), .agg #[.int .i64 5, .int .i64 (((dgK s (k + 1) 2 : Nat) : Int))]]) (by simp [results, Tryz.results25, go_sem, hq.2.1.1, hq.2.2.1]) rfl ⟨0, 0, by rw [HP.out], by rw [HP.out]; exact fun h => absurd h five_ne, by rw [HP.out]; exact ScanAt.res HSZ.out HBL.out _ _, HOZ.out.res HBL.out _ _⟩
        · have C7 : Hid (∀ w0, ScanAt b s ((k + 1 : Nat) : Int) w0 → Calls Tryz.prog 49 #[.pointer (some ⟨b, 0, none⟩), .int .i64 2] w0 fun e w' => e = .returned (.tuple #[.int .i64 ((dgN s (k + 1) 2 : Nat) : Int), .bool true]) ∧ ScanAt b s ((dgK s (k + 1) 2 : Nat) : Int) w' ∧ Only b w0 w') := Lib.hid fun w0 h => by
              have q := take_any b s (k + 1) 2 2 rfl w0 h hkl hs (by omega)
              rw [h7] at q
              exact q
          have hx7 := dgN_lt s (k + 1) 2
          have F7 := Lib.hid h7; clear h7
          obtain ⟨H, hH⟩ : ∃ H, dgN s (k + 1) 2 = H := ⟨_, rfl⟩
          rw [hH] at C7
          have hHl : H < 100 := by rw [← hH]; exact dgN_lt s _ 2
          rcases wd with _ | _
          · skip
            go_wp2_with (first
              | (go_at_call 49; (with_reducible refine (C7.out _ SA6.out).mono ?_); rintro e w7 ⟨rfl, hS, hO⟩; have S7 := Lib.hid hS; have O7 := Lib.hid (OA6.out.trans hO); have L7 := Lib.hid (LA6.out.only hO (by have := HBL.out; omega)); obtain ⟨-, ⟨c0, f0⟩, ⟨c1, f1⟩⟩ := L7.out; obtain ⟨-, -, k1, kf⟩ := hS; clear hO))
            rcases bool_or (dgB s (dgK s (k + 1) 2) 2) with h8 | h8
            · have C8 : Hid (∀ w0, ScanAt b s ((dgK s (k + 1) 2 : Nat) : Int) w0 → Calls Tryz.prog 49 #[.pointer (some ⟨b, 0, none⟩), .int .i64 2] w0 fun e w' => e = .returned (.tuple #[.int .i64 ((dgN s (dgK s (k + 1) 2) 2 : Nat) : Int), .bool false]) ∧ ScanAt b s ((dgK s (dgK s (k + 1) 2) 2 : Nat) : Int) w' ∧ Only b w0 w') := Lib.hid fun w0 h => by
                  have q := take_any b s (dgK s (k + 1) 2) 2 2 rfl w0 h (dgK_le hkl) hs (by omega)
                  rw [h8] at q
                  exact q
              have hx8 := dgN_lt s (dgK s (k + 1) 2) 2
              have F8 := Lib.hid h8; clear h8
              have HP : Hid (zoneP s false k = ⟨0, 0, 5, ((dgK s (dgK s (k + 1) 2) 2 : Nat) : Int), dgK s (dgK s (k + 1) 2) 2⟩) := Lib.hid (by simp [zoneP, znP, badZ, F1.out, hM, hP, F7.out, F8.out])
              have CFO : Hid (∀ w0, ScanAt b s ((dgK s (dgK s (k + 1) 2) 2 : Nat) : Int) w0 → Calls Tryz.prog 26 #[.pointer (some ⟨b, 0, none⟩)] w0 fun e w' => e = .returned (.agg #[.int .i64 5, .int .i64 ((dgK s (dgK s (k + 1) 2) 2 : Nat) : Int)]) ∧ Below w0.heap.size w0 w') := Lib.hid fun w0 h => form_any b s (dgK s (dgK s (k + 1) 2) 2) w0 h
              go_wp2_with (first
                | (go_at_call 49; (with_reducible refine (C8.out _ S7.out).mono ?_); rintro e w8 ⟨rfl, hS, hO⟩; have S8 := Lib.hid hS; have O8 := Lib.hid (O7.out.trans hO); have L8 := Lib.hid (L7.out.only hO (by have := HBL.out; omega)); obtain ⟨-, ⟨c0, f0⟩, ⟨c1, f1⟩⟩ := L8.out; obtain ⟨-, -, k1, kf⟩ := hS; clear hO)
                | (go_at_call 26; (with_reducible refine (CFO.out _ S8.out).mono ?_); rintro e wz ⟨rfl, hb⟩; have HSZ := Lib.hid (S8.out.call hb); have HOZ := Lib.hid (O8.out.then hb HBW.out); have HLZ := Lib.hid (L8.out.call hb); obtain ⟨-, ⟨c0, f0⟩, ⟨c1, f1⟩⟩ := HLZ.out; clear hb))
              have hq := HLZ.out.put (.int .i64 5) (.int .i64 (((dgK s (dgK s (k + 1) 2) 2 : Nat) : Int)))
              exact bodyPost_ret (v := .tuple #[.int .i64 (0), .int .i64 (0), .agg #[.int .i64 5, .int .i64 (((dgK s (dgK s (k + 1) 2) 2 : Nat) : Int))]]) (by simp [results, Tryz.results25, go_sem, hq.2.1.1, hq.2.2.1]) rfl ⟨0, 0, by rw [HP.out], by rw [HP.out]; exact fun h => absurd h five_ne, by rw [HP.out]; exact ScanAt.res HSZ.out HBL.out _ _, HOZ.out.res HBL.out _ _⟩
            · have C8 : Hid (∀ w0, ScanAt b s ((dgK s (k + 1) 2 : Nat) : Int) w0 → Calls Tryz.prog 49 #[.pointer (some ⟨b, 0, none⟩), .int .i64 2] w0 fun e w' => e = .returned (.tuple #[.int .i64 ((dgN s (dgK s (k + 1) 2) 2 : Nat) : Int), .bool true]) ∧ ScanAt b s ((dgK s (dgK s (k + 1) 2) 2 : Nat) : Int) w' ∧ Only b w0 w') := Lib.hid fun w0 h => by
                  have q := take_any b s (dgK s (k + 1) 2) 2 2 rfl w0 h (dgK_le hkl) hs (by omega)
                  rw [h8] at q
                  exact q
              have hx8 := dgN_lt s (dgK s (k + 1) 2) 2
              have F8 := Lib.hid h8; clear h8
              obtain ⟨M, hMm⟩ : ∃ M, dgN s (dgK s (k + 1) 2) 2 = M := ⟨_, rfl⟩
              rw [hMm] at C8
              have hMl : M < 100 := by rw [← hMm]; exact dgN_lt s _ 2
              rcases (show 23 < H ∨ (¬ 23 < H ∧ 59 < M) ∨ (¬ 23 < H ∧ ¬ 59 < M) by omega) with g | ⟨g1, g⟩ | ⟨g1, g⟩
              · have d1 : decide (23 < H) = true := decide_eq_true g; have d1i : decide (23 < (H : Int)) = true := decide_eq_true (by omega)
                have HP : Hid (zoneP s false k = ⟨0, 0, 3, -1, dgK s (dgK s (k + 1) 2) 2⟩) := Lib.hid (by simp [zoneP, znP, F1.out, hM, hP, F7.out, F8.out, hH, hMm, g])
                have CBA : Hid (∀ w0, Calls Tryz.prog 28 #[.int .i64 3] w0 fun e w' => e = .returned (.agg #[.int .i64 3, .int .i64 (-1)]) ∧ Below w0.heap.size w0 w') := Lib.hid fun w0 => badR_any _ w0
                go_wp2_with (first
                  | (go_at_call 49; (with_reducible refine (C8.out _ S7.out).mono ?_); rintro e w8 ⟨rfl, hS, hO⟩; have S8 := Lib.hid hS; have O8 := Lib.hid (O7.out.trans hO); have L8 := Lib.hid (L7.out.only hO (by have := HBL.out; omega)); obtain ⟨-, ⟨c0, f0⟩, ⟨c1, f1⟩⟩ := L8.out; obtain ⟨-, -, k1, kf⟩ := hS; clear hO)
                  | (go_at_call 28; (with_reducible refine (CBA.out _).mono ?_); rintro e wz ⟨rfl, hb⟩; have HSZ := Lib.hid (S8.out.call hb); have HOZ := Lib.hid (O8.out.then hb HBW.out); have HLZ := Lib.hid (L8.out.call hb); obtain ⟨-, ⟨c0, f0⟩, ⟨c1, f1⟩⟩ := HLZ.out; clear hb))
                have hq := HLZ.out.put (.int .i64 3) (.int .i64 (-1))
                exact bodyPost_ret (v := .tuple #[.int .i64 (0), .int .i64 (0), .agg #[.int .i64 3, .int .i64 (-1)]]) (by simp [results, Tryz.results25, go_sem, hq.2.1.1, hq.2.2.1]) rfl ⟨0, 0, by rw [HP.out], by rw [HP.out]; exact fun h => absurd h three_ne, by rw [HP.out]; exact ScanAt.res HSZ.out HBL.out _ _, HOZ.out.res HBL.out _ _⟩
              · have d1 : decide (23 < H) = false := decide_eq_false g1; have d1i : decide (23 < (H : Int)) = false := decide_eq_false (by omega); have d2 : decide (59 < M) = true := decide_eq_true g; have d2i : decide (59 < (M : Int)) = true := decide_eq_true (by omega)
                have HP : Hid (zoneP s false k = ⟨0, 0, 3, -1, dgK s (dgK s (k + 1) 2) 2⟩) := Lib.hid (by simp [zoneP, znP, F1.out, hM, hP, F7.out, F8.out, hH, hMm, g])
                have CBA : Hid (∀ w0, Calls Tryz.prog 28 #[.int .i64 3] w0 fun e w' => e = .returned (.agg #[.int .i64 3, .int .i64 (-1)]) ∧ Below w0.heap.size w0 w') := Lib.hid fun w0 => badR_any _ w0
                go_wp2_with (first
                  | (go_at_call 49; (with_reducible refine (C8.out _ S7.out).mono ?_); rintro e w8 ⟨rfl, hS, hO⟩; have S8 := Lib.hid hS; have O8 := Lib.hid (O7.out.trans hO); have L8 := Lib.hid (L7.out.only hO (by have := HBL.out; omega)); obtain ⟨-, ⟨c0, f0⟩, ⟨c1, f1⟩⟩ := L8.out; obtain ⟨-, -, k1, kf⟩ := hS; clear hO)
                  | (go_at_call 28; (with_reducible refine (CBA.out _).mono ?_); rintro e wz ⟨rfl, hb⟩; have HSZ := Lib.hid (S8.out.call hb); have HOZ := Lib.hid (O8.out.then hb HBW.out); have HLZ := Lib.hid (L8.out.call hb); obtain ⟨-, ⟨c0, f0⟩, ⟨c1, f1⟩⟩ := HLZ.out; clear hb))
                have hq := HLZ.out.put (.int .i64 3) (.int .i64 (-1))
                exact bodyPost_ret (v := .tuple #[.int .i64 (0), .int .i64 (0), .agg #[.int .i64 3, .int .i64 (-1)]]) (by simp [results, Tryz.results25, go_sem, hq.2.1.1, hq.2.2.1]) rfl ⟨0, 0, by rw [HP.out], by rw [HP.out]; exact fun h => absurd h three_ne, by rw [HP.out]; exact ScanAt.res HSZ.out HBL.out _ _, HOZ.out.res HBL.out _ _⟩
              · have d1 : decide (23 < H) = false := decide_eq_false g1; have d1i : decide (23 < (H : Int)) = false := decide_eq_false (by omega); have d2 : decide (59 < M) = false := decide_eq_false g; have d2i : decide (59 < (M : Int)) = false := decide_eq_false (by omega)
                have HP : Hid (zoneP s false k = ⟨2, 1 * ((H : Int) * 60 + (M : Int)) * 60, 0, -1, dgK s (dgK s (k + 1) 2) 2⟩) := Lib.hid (by simp [zoneP, znP, F1.out, hM, hP, F7.out, F8.out, hH, hMm, g1, g])
                have CFI : Hid (∀ w0, Calls Tryz.prog 29 #[] w0 fun e w' => e = .returned (.agg #[.int .i64 0, .int .i64 (-1)]) ∧ Below w0.heap.size w0 w') := Lib.hid fineR_any
                go_wp2_with (first
                  | (go_at_call 49; (with_reducible refine (C8.out _ S7.out).mono ?_); rintro e w8 ⟨rfl, hS, hO⟩; have S8 := Lib.hid hS; have O8 := Lib.hid (O7.out.trans hO); have L8 := Lib.hid (L7.out.only hO (by have := HBL.out; omega)); obtain ⟨-, ⟨c0, f0⟩, ⟨c1, f1⟩⟩ := L8.out; obtain ⟨-, -, k1, kf⟩ := hS; clear hO)
                  | (go_at_call 29; (with_reducible refine (CFI.out _).mono ?_); rintro e wz ⟨rfl, hb⟩; have HSZ := Lib.hid (S8.out.call hb); have HOZ := Lib.hid (O8.out.then hb HBW.out); have HLZ := Lib.hid (L8.out.call hb); obtain ⟨-, ⟨c0, f0⟩, ⟨c1, f1⟩⟩ := HLZ.out; clear hb))
                have hq := HLZ.out.put (.int .i64 0) (.int .i64 (-1))
                exact bodyPost_ret (v := .tuple #[.int .i64 (2), .int .i64 (1 * ((H : Int) * 3600 + (M : Int) * 60)), .agg #[.int .i64 0, .int .i64 (-1)]]) (by simp [results, Tryz.results25, go_sem, hq.2.1.1, hq.2.2.1] <;> omega) rfl ⟨2, 1 * ((H : Int) * 3600 + (M : Int) * 60), by rw [HP.out], by rw [HP.out]; exact fun _ => ⟨rfl, by first | rfl | (dsimp only; omega)⟩, by rw [HP.out]; exact ScanAt.res HSZ.out HBL.out _ _, HOZ.out.res HBL.out _ _⟩
          · skip
            go_wp2_with (first
              | (go_at_call 49; (with_reducible refine (C7.out _ SA6.out).mono ?_); rintro e w7 ⟨rfl, hS, hO⟩; have S7 := Lib.hid hS; have O7 := Lib.hid (OA6.out.trans hO); have L7 := Lib.hid (LA6.out.only hO (by have := HBL.out; omega)); obtain ⟨-, ⟨c0, f0⟩, ⟨c1, f1⟩⟩ := L7.out; obtain ⟨-, -, k1, kf⟩ := hS; clear hO))
            rcases bool_or (isB s (dgK s (k + 1) 2) 58) with h9 | h9
            · have C9 : Hid (∀ w0, ScanAt b s ((dgK s (k + 1) 2 : Nat) : Int) w0 → Calls Tryz.prog 23 #[.pointer (some ⟨b, 0, none⟩), .int .u8 58] w0 fun e w' => e = .returned (.bool false) ∧ ScanAt b s ((dgK s (k + 1) 2 : Nat) : Int) w' ∧ Only b w0 w') := Lib.hid fun w0 h => by
                  have q := ris_any b s (dgK s (k + 1) 2) 58 w0 h hs
                  rw [h9, isK_no h9] at q
                  exact q
              have F9 := Lib.hid h9; clear h9
              have HP : Hid (zoneP s true k = ⟨0, 0, 5, ((dgK s (k + 1) 2 : Nat) : Int), dgK s (k + 1) 2⟩) := Lib.hid (by simp [zoneP, znP, badZ, F1.out, hM, hP, F7.out, F9.out])
              have CFO : Hid (∀ w0, ScanAt b s ((dgK s (k + 1) 2 : Nat) : Int) w0 → Calls Tryz.prog 26 #[.pointer (some ⟨b, 0, none⟩)] w0 fun e w' => e = .returned (.agg #[.int .i64 5, .int .i64 ((dgK s (k + 1) 2 : Nat) : Int)]) ∧ Below w0.heap.size w0 w') := Lib.hid fun w0 h => form_any b s (dgK s (k + 1) 2) w0 h
              go_wp2_with (first
                | (go_at_call 23; (with_reducible refine (C9.out _ S7.out).mono ?_); rintro e w9 ⟨rfl, hS, hO⟩; have S9 := Lib.hid hS; have O9 := Lib.hid (O7.out.trans hO); have L9 := Lib.hid (L7.out.only hO (by have := HBL.out; omega)); obtain ⟨-, ⟨c0, f0⟩, ⟨c1, f1⟩⟩ := L9.out; obtain ⟨-, -, k1, kf⟩ := hS; clear hO)
                | (go_at_call 26; (with_reducible refine (CFO.out _ S9.out).mono ?_); rintro e wz ⟨rfl, hb⟩; have HSZ := Lib.hid (S9.out.call hb); have HOZ := Lib.hid (O9.out.then hb HBW.out); have HLZ := Lib.hid (L9.out.call hb); obtain ⟨-, ⟨c0, f0⟩, ⟨c1, f1⟩⟩ := HLZ.out; clear hb))
              have hq := HLZ.out.put (.int .i64 5) (.int .i64 (((dgK s (k + 1) 2 : Nat) : Int)))
              exact bodyPost_ret (v := .tuple #[.int .i64 (0), .int .i64 (0), .agg #[.int .i64 5, .int .i64 (((dgK s (k + 1) 2 : Nat) : Int))]]) (by simp [results, Tryz.results25, go_sem, hq.2.1.1, hq.2.2.1]) rfl ⟨0, 0, by rw [HP.out], by rw [HP.out]; exact fun h => absurd h five_ne, by rw [HP.out]; exact ScanAt.res HSZ.out HBL.out _ _, HOZ.out.res HBL.out _ _⟩
            · have C9 : Hid (∀ w0, ScanAt b s ((dgK s (k + 1) 2 : Nat) : Int) w0 → Calls Tryz.prog 23 #[.pointer (some ⟨b, 0, none⟩), .int .u8 58] w0 fun e w' => e = .returned (.bool true) ∧ ScanAt b s ((dgK s (k + 1) 2 + 1 : Nat) : Int) w' ∧ Only b w0 w') := Lib.hid fun w0 h => by
                  have q := ris_any b s (dgK s (k + 1) 2) 58 w0 h hs
                  rw [h9, isK_yes h9] at q
                  exact q
              have F9 := Lib.hid h9; clear h9
              go_wp2_with (first
                | (go_at_call 23; (with_reducible refine (C9.out _ S7.out).mono ?_); rintro e w9 ⟨rfl, hS, hO⟩; have S9 := Lib.hid hS; have O9 := Lib.hid (O7.out.trans hO); have L9 := Lib.hid (L7.out.only hO (by have := HBL.out; omega)); obtain ⟨-, ⟨c0, f0⟩, ⟨c1, f1⟩⟩ := L9.out; obtain ⟨-, -, k1, kf⟩ := hS; clear hO))
              rcases bool_or (dgB s (dgK s (k + 1) 2 + 1) 2) with h10 | h10
              · have C10 : Hid (∀ w0, ScanAt b s ((dgK s (k + 1) 2 + 1 : Nat) : Int) w0 → Calls Tryz.prog 49 #[.pointer (some ⟨b, 0, none⟩), .int .i64 2] w0 fun e w' => e = .returned (.tuple #[.int .i64 ((dgN s (dgK s (k + 1) 2 + 1) 2 : Nat) : Int), .bool false]) ∧ ScanAt b s ((dgK s (dgK s (k + 1) 2 + 1) 2 : Nat) : Int) w' ∧ Only b w0 w') := Lib.hid fun w0 h => by
                    have q := take_any b s (dgK s (k + 1) 2 + 1) 2 2 rfl w0 h (isB_lt F9.out) hs (by omega)
                    rw [h10] at q
                    exact q
                have hx10 := dgN_lt s (dgK s (k + 1) 2 + 1) 2
                have F10 := Lib.hid h10; clear h10
                have HP : Hid (zoneP s true k = ⟨0, 0, 5, ((dgK s (dgK s (k + 1) 2 + 1) 2 : Nat) : Int), dgK s (dgK s (k + 1) 2 + 1) 2⟩) := Lib.hid (by simp [zoneP, znP, badZ, F1.out, hM, hP, F7.out, F9.out, F10.out])
                have CFO : Hid (∀ w0, ScanAt b s ((dgK s (dgK s (k + 1) 2 + 1) 2 : Nat) : Int) w0 → Calls Tryz.prog 26 #[.pointer (some ⟨b, 0, none⟩)] w0 fun e w' => e = .returned (.agg #[.int .i64 5, .int .i64 ((dgK s (dgK s (k + 1) 2 + 1) 2 : Nat) : Int)]) ∧ Below w0.heap.size w0 w') := Lib.hid fun w0 h => form_any b s (dgK s (dgK s (k + 1) 2 + 1) 2) w0 h
                go_wp2_with (first
                  | (go_at_call 49; (with_reducible refine (C10.out _ S9.out).mono ?_); rintro e w10 ⟨rfl, hS, hO⟩; have S10 := Lib.hid hS; have O10 := Lib.hid (O9.out.trans hO); have L10 := Lib.hid (L9.out.only hO (by have := HBL.out; omega)); obtain ⟨-, ⟨c0, f0⟩, ⟨c1, f1⟩⟩ := L10.out; obtain ⟨-, -, k1, kf⟩ := hS; clear hO)
                  | (go_at_call 26; (with_reducible refine (CFO.out _ S10.out).mono ?_); rintro e wz ⟨rfl, hb⟩; have HSZ := Lib.hid (S10.out.call hb); have HOZ := Lib.hid (O10.out.then hb HBW.out); have HLZ := Lib.hid (L10.out.call hb); obtain ⟨-, ⟨c0, f0⟩, ⟨c1, f1⟩⟩ := HLZ.out; clear hb))
                have hq := HLZ.out.put (.int .i64 5) (.int .i64 (((dgK s (dgK s (k + 1) 2 + 1) 2 : Nat) : Int)))
                exact bodyPost_ret (v := .tuple #[.int .i64 (0), .int .i64 (0), .agg #[.int .i64 5, .int .i64 (((dgK s (dgK s (k + 1) 2 + 1) 2 : Nat) : Int))]]) (by simp [results, Tryz.results25, go_sem, hq.2.1.1, hq.2.2.1]) rfl ⟨0, 0, by rw [HP.out], by rw [HP.out]; exact fun h => absurd h five_ne, by rw [HP.out]; exact ScanAt.res HSZ.out HBL.out _ _, HOZ.out.res HBL.out _ _⟩
              · have C10 : Hid (∀ w0, ScanAt b s ((dgK s (k + 1) 2 + 1 : Nat) : Int) w0 → Calls Tryz.prog 49 #[.pointer (some ⟨b, 0, none⟩), .int .i64 2] w0 fun e w' => e = .returned (.tuple #[.int .i64 ((dgN s (dgK s (k + 1) 2 + 1) 2 : Nat) : Int), .bool true]) ∧ ScanAt b s ((dgK s (dgK s (k + 1) 2 + 1) 2 : Nat) : Int) w' ∧ Only b w0 w') := Lib.hid fun w0 h => by
                    have q := take_any b s (dgK s (k + 1) 2 + 1) 2 2 rfl w0 h (isB_lt F9.out) hs (by omega)
                    rw [h10] at q
                    exact q
                have hx10 := dgN_lt s (dgK s (k + 1) 2 + 1) 2
                have F10 := Lib.hid h10; clear h10
                obtain ⟨M, hMm⟩ : ∃ M, dgN s (dgK s (k + 1) 2 + 1) 2 = M := ⟨_, rfl⟩
                rw [hMm] at C10
                have hMl : M < 100 := by rw [← hMm]; exact dgN_lt s _ 2
                rcases (show 23 < H ∨ (¬ 23 < H ∧ 59 < M) ∨ (¬ 23 < H ∧ ¬ 59 < M) by omega) with g | ⟨g1, g⟩ | ⟨g1, g⟩
                · have d1 : decide (23 < H) = true := decide_eq_true g; have d1i : decide (23 < (H : Int)) = true := decide_eq_true (by omega)
                  have HP : Hid (zoneP s true k = ⟨0, 0, 3, -1, dgK s (dgK s (k + 1) 2 + 1) 2⟩) := Lib.hid (by simp [zoneP, znP, F1.out, hM, hP, F7.out, F9.out, F10.out, hH, hMm, g])
                  have CBA : Hid (∀ w0, Calls Tryz.prog 28 #[.int .i64 3] w0 fun e w' => e = .returned (.agg #[.int .i64 3, .int .i64 (-1)]) ∧ Below w0.heap.size w0 w') := Lib.hid fun w0 => badR_any _ w0
                  go_wp2_with (first
                    | (go_at_call 49; (with_reducible refine (C10.out _ S9.out).mono ?_); rintro e w10 ⟨rfl, hS, hO⟩; have S10 := Lib.hid hS; have O10 := Lib.hid (O9.out.trans hO); have L10 := Lib.hid (L9.out.only hO (by have := HBL.out; omega)); obtain ⟨-, ⟨c0, f0⟩, ⟨c1, f1⟩⟩ := L10.out; obtain ⟨-, -, k1, kf⟩ := hS; clear hO)
                    | (go_at_call 28; (with_reducible refine (CBA.out _).mono ?_); rintro e wz ⟨rfl, hb⟩; have HSZ := Lib.hid (S10.out.call hb); have HOZ := Lib.hid (O10.out.then hb HBW.out); have HLZ := Lib.hid (L10.out.call hb); obtain ⟨-, ⟨c0, f0⟩, ⟨c1, f1⟩⟩ := HLZ.out; clear hb))
                  have hq := HLZ.out.put (.int .i64 3) (.int .i64 (-1))
                  exact bodyPost_ret (v := .tuple #[.int .i64 (0), .int .i64 (0), .agg #[.int .i64 3, .int .i64 (-1)]]) (by simp [results, Tryz.results25, go_sem, hq.2.1.1, hq.2.2.1]) rfl ⟨0, 0, by rw [HP.out], by rw [HP.out]; exact fun h => absurd h three_ne, by rw [HP.out]; exact ScanAt.res HSZ.out HBL.out _ _, HOZ.out.res HBL.out _ _⟩
                · have d1 : decide (23 < H) = false := decide_eq_false g1; have d1i : decide (23 < (H : Int)) = false := decide_eq_false (by omega); have d2 : decide (59 < M) = true := decide_eq_true g; have d2i : decide (59 < (M : Int)) = true := decide_eq_true (by omega)
                  have HP : Hid (zoneP s true k = ⟨0, 0, 3, -1, dgK s (dgK s (k + 1) 2 + 1) 2⟩) := Lib.hid (by simp [zoneP, znP, F1.out, hM, hP, F7.out, F9.out, F10.out, hH, hMm, g])
                  have CBA : Hid (∀ w0, Calls Tryz.prog 28 #[.int .i64 3] w0 fun e w' => e = .returned (.agg #[.int .i64 3, .int .i64 (-1)]) ∧ Below w0.heap.size w0 w') := Lib.hid fun w0 => badR_any _ w0
                  go_wp2_with (first
                    | (go_at_call 49; (with_reducible refine (C10.out _ S9.out).mono ?_); rintro e w10 ⟨rfl, hS, hO⟩; have S10 := Lib.hid hS; have O10 := Lib.hid (O9.out.trans hO); have L10 := Lib.hid (L9.out.only hO (by have := HBL.out; omega)); obtain ⟨-, ⟨c0, f0⟩, ⟨c1, f1⟩⟩ := L10.out; obtain ⟨-, -, k1, kf⟩ := hS; clear hO)
                    | (go_at_call 28; (with_reducible refine (CBA.out _).mono ?_); rintro e wz ⟨rfl, hb⟩; have HSZ := Lib.hid (S10.out.call hb); have HOZ := Lib.hid (O10.out.then hb HBW.out); have HLZ := Lib.hid (L10.out.call hb); obtain ⟨-, ⟨c0, f0⟩, ⟨c1, f1⟩⟩ := HLZ.out; clear hb))
                  have hq := HLZ.out.put (.int .i64 3) (.int .i64 (-1))
                  exact bodyPost_ret (v := .tuple #[.int .i64 (0), .int .i64 (0), .agg #[.int .i64 3, .int .i64 (-1)]]) (by simp [results, Tryz.results25, go_sem, hq.2.1.1, hq.2.2.1]) rfl ⟨0, 0, by rw [HP.out], by rw [HP.out]; exact fun h => absurd h three_ne, by rw [HP.out]; exact ScanAt.res HSZ.out HBL.out _ _, HOZ.out.res HBL.out _ _⟩
                · have d1 : decide (23 < H) = false := decide_eq_false g1; have d1i : decide (23 < (H : Int)) = false := decide_eq_false (by omega); have d2 : decide (59 < M) = false := decide_eq_false g; have d2i : decide (59 < (M : Int)) = false := decide_eq_false (by omega)
                  have HP : Hid (zoneP s true k = ⟨2, 1 * ((H : Int) * 60 + (M : Int)) * 60, 0, -1, dgK s (dgK s (k + 1) 2 + 1) 2⟩) := Lib.hid (by simp [zoneP, znP, F1.out, hM, hP, F7.out, F9.out, F10.out, hH, hMm, g1, g])
                  have CFI : Hid (∀ w0, Calls Tryz.prog 29 #[] w0 fun e w' => e = .returned (.agg #[.int .i64 0, .int .i64 (-1)]) ∧ Below w0.heap.size w0 w') := Lib.hid fineR_any
                  go_wp2_with (first
                    | (go_at_call 49; (with_reducible refine (C10.out _ S9.out).mono ?_); rintro e w10 ⟨rfl, hS, hO⟩; have S10 := Lib.hid hS; have O10 := Lib.hid (O9.out.trans hO); have L10 := Lib.hid (L9.out.only hO (by have := HBL.out; omega)); obtain ⟨-, ⟨c0, f0⟩, ⟨c1, f1⟩⟩ := L10.out; obtain ⟨-, -, k1, kf⟩ := hS; clear hO)
                    | (go_at_call 29; (with_reducible refine (CFI.out _).mono ?_); rintro e wz ⟨rfl, hb⟩; have HSZ := Lib.hid (S10.out.call hb); have HOZ := Lib.hid (O10.out.then hb HBW.out); have HLZ := Lib.hid (L10.out.call hb); obtain ⟨-, ⟨c0, f0⟩, ⟨c1, f1⟩⟩ := HLZ.out; clear hb))
                  have hq := HLZ.out.put (.int .i64 0) (.int .i64 (-1))
                  exact bodyPost_ret (v := .tuple #[.int .i64 (2), .int .i64 (1 * ((H : Int) * 3600 + (M : Int) * 60)), .agg #[.int .i64 0, .int .i64 (-1)]]) (by simp [results, Tryz.results25, go_sem, hq.2.1.1, hq.2.2.1] <;> omega) rfl ⟨2, 1 * ((H : Int) * 3600 + (M : Int) * 60), by rw [HP.out], by rw [HP.out]; exact fun _ => ⟨rfl, by first | rfl | (dsimp only; omega)⟩, by rw [HP.out]; exact ScanAt.res HSZ.out HBL.out _ _, HOZ.out.res HBL.out _ _⟩
    · have hv := nxt_yes hM
      have hkl := isB_lt hM
      have C11 : Hid (∀ w0, ScanAt b s ((k : Nat) : Int) w0 → Calls Tryz.prog 48 #[.pointer (some ⟨b, 0, none⟩)] w0 fun e w' => e = .returned (.int .u8 45) ∧ ∃ q, w' = w0.drewN q) := Lib.hid fun w0 h => (next_any b s (k) w0 h).mono fun e w' ⟨h1, h2⟩ => ⟨by rw [h1, hv]; rfl, h2⟩
      have C12 : Hid (∀ w0, ScanAt b s ((k : Nat) : Int) w0 → Calls Tryz.prog 48 #[.pointer (some ⟨b, 0, none⟩)] w0 fun e w' => e = .returned (.int .u8 45) ∧ ∃ q, w' = w0.drewN q) := Lib.hid fun w0 h => (next_any b s (k) w0 h).mono fun e w' ⟨h1, h2⟩ => ⟨by rw [h1, hv]; rfl, h2⟩
      go_wp2_with (first
        | (go_at_call 23; (with_reducible refine (C1.out _ S0.out).mono ?_); rintro e w1 ⟨rfl, hS, hO⟩; have S1 := Lib.hid hS; have O1 := Lib.hid (O0.out.trans hO); have L1 := Lib.hid (L0.out.only hO (by have := HBL.out; omega)); obtain ⟨-, ⟨c0, f0⟩, ⟨c1, f1⟩⟩ := L1.out; obtain ⟨-, -, k1, kf⟩ := hS; clear hO)
        | (go_at_call 48; (with_reducible refine (C11.out _ S1.out).mono ?_); rintro e w11 ⟨rfl, q, rfl⟩; have hsa := S1.out.drewN q; have hoa := O1.out.drewN q; have hla := L1.out.drewN q; (try simp only [World.drewN_drewN] at hsa hoa hla); have S11 := Lib.hid hsa; have O11 := Lib.hid hoa; have L11 := Lib.hid hla; clear hsa hoa hla)
        | (go_at_call 48; (with_reducible refine (C12.out _ S11.out).mono ?_); rintro e w12 ⟨rfl, q, rfl⟩; have hsa := S11.out.drewN q; have hoa := O11.out.drewN q; have hla := L11.out.drewN q; (try simp only [World.drewN_drewN] at hsa hoa hla); have S12 := Lib.hid hsa; have O12 := Lib.hid hoa; have L12 := Lib.hid hla; clear hsa hoa hla; have hsa := ScanAt.set1 S12.out; have hoa := Only.set1 (k := k) O12.out; have hla := L2.set1 (b := b) (k := k) L12.out (by have := HBL.out; omega); (try simp only [World.drewN_drewN] at hsa hoa hla); have SA13 := Lib.hid hsa; have OA13 := Lib.hid hoa; have LA13 := Lib.hid hla; clear hsa hoa hla))
      rcases bool_or (dgB s (k + 1) 2) with h14 | h14
      · have C14 : Hid (∀ w0, ScanAt b s ((k + 1 : Nat) : Int) w0 → Calls Tryz.prog 49 #[.pointer (some ⟨b, 0, none⟩), .int .i64 2] w0 fun e w' => e = .returned (.tuple #[.int .i64 ((dgN s (k + 1) 2 : Nat) : Int), .bool false]) ∧ ScanAt b s ((dgK s (k + 1) 2 : Nat) : Int) w' ∧ Only b w0 w') := Lib.hid fun w0 h => by
            have q := take_any b s (k + 1) 2 2 rfl w0 h hkl hs (by omega)
            rw [h14] at q
            exact q
        have hx14 := dgN_lt s (k + 1) 2
        have F14 := Lib.hid h14; clear h14
        have HP : Hid (zoneP s wd k = ⟨0, 0, 5, ((dgK s (k + 1) 2 : Nat) : Int), dgK s (k + 1) 2⟩) := Lib.hid (by simp [zoneP, znP, badZ, F1.out, hM, F14.out])
        have CFO : Hid (∀ w0, ScanAt b s ((dgK s (k + 1) 2 : Nat) : Int) w0 → Calls Tryz.prog 26 #[.pointer (some ⟨b, 0, none⟩)] w0 fun e w' => e = .returned (.agg #[.int .i64 5, .int .i64 ((dgK s (k + 1) 2 : Nat) : Int)]) ∧ Below w0.heap.size w0 w') := Lib.hid fun w0 h => form_any b s (dgK s (k + 1) 2) w0 h
        go_wp2_with (first
          | (go_at_call 49; (with_reducible refine (C14.out _ SA13.out).mono ?_); rintro e w14 ⟨rfl, hS, hO⟩; have S14 := Lib.hid hS; have O14 := Lib.hid (OA13.out.trans hO); have L14 := Lib.hid (LA13.out.only hO (by have := HBL.out; omega)); obtain ⟨-, ⟨c0, f0⟩, ⟨c1, f1⟩⟩ := L14.out; obtain ⟨-, -, k1, kf⟩ := hS; clear hO)
          | (go_at_call 26; (with_reducible refine (CFO.out _ S14.out).mono ?_); rintro e wz ⟨rfl, hb⟩; have HSZ := Lib.hid (S14.out.call hb); have HOZ := Lib.hid (O14.out.then hb HBW.out); have HLZ := Lib.hid (L14.out.call hb); obtain ⟨-, ⟨c0, f0⟩, ⟨c1, f1⟩⟩ := HLZ.out; clear hb))
        have hq := HLZ.out.put (.int .i64 5) (.int .i64 (((dgK s (k + 1) 2 : Nat) : Int)))
        exact bodyPost_ret (v := .tuple #[.int .i64 (0), .int .i64 (0), .agg #[.int .i64 5, .int .i64 (((dgK s (k + 1) 2 : Nat) : Int))]]) (by simp [results, Tryz.results25, go_sem, hq.2.1.1, hq.2.2.1]) rfl ⟨0, 0, by rw [HP.out], by rw [HP.out]; exact fun h => absurd h five_ne, by rw [HP.out]; exact ScanAt.res HSZ.out HBL.out _ _, HOZ.out.res HBL.out _ _⟩
      · have C14 : Hid (∀ w0, ScanAt b s ((k + 1 : Nat) : Int) w0 → Calls Tryz.prog 49 #[.pointer (some ⟨b, 0, none⟩), .int .i64 2] w0 fun e w' => e = .returned (.tuple #[.int .i64 ((dgN s (k + 1) 2 : Nat) : Int), .bool true]) ∧ ScanAt b s ((dgK s (k + 1) 2 : Nat) : Int) w' ∧ Only b w0 w') := Lib.hid fun w0 h => by
            have q := take_any b s (k + 1) 2 2 rfl w0 h hkl hs (by omega)
            rw [h14] at q
            exact q
        have hx14 := dgN_lt s (k + 1) 2
        have F14 := Lib.hid h14; clear h14
        obtain ⟨H, hH⟩ : ∃ H, dgN s (k + 1) 2 = H := ⟨_, rfl⟩
        rw [hH] at C14
        have hHl : H < 100 := by rw [← hH]; exact dgN_lt s _ 2
        rcases wd with _ | _
        · skip
          go_wp2_with (first
            | (go_at_call 49; (with_reducible refine (C14.out _ SA13.out).mono ?_); rintro e w14 ⟨rfl, hS, hO⟩; have S14 := Lib.hid hS; have O14 := Lib.hid (OA13.out.trans hO); have L14 := Lib.hid (LA13.out.only hO (by have := HBL.out; omega)); obtain ⟨-, ⟨c0, f0⟩, ⟨c1, f1⟩⟩ := L14.out; obtain ⟨-, -, k1, kf⟩ := hS; clear hO))
          rcases bool_or (dgB s (dgK s (k + 1) 2) 2) with h15 | h15
          · have C15 : Hid (∀ w0, ScanAt b s ((dgK s (k + 1) 2 : Nat) : Int) w0 → Calls Tryz.prog 49 #[.pointer (some ⟨b, 0, none⟩), .int .i64 2] w0 fun e w' => e = .returned (.tuple #[.int .i64 ((dgN s (dgK s (k + 1) 2) 2 : Nat) : Int), .bool false]) ∧ ScanAt b s ((dgK s (dgK s (k + 1) 2) 2 : Nat) : Int) w' ∧ Only b w0 w') := Lib.hid fun w0 h => by
                have q := take_any b s (dgK s (k + 1) 2) 2 2 rfl w0 h (dgK_le hkl) hs (by omega)
                rw [h15] at q
                exact q
            have hx15 := dgN_lt s (dgK s (k + 1) 2) 2
            have F15 := Lib.hid h15; clear h15
            have HP : Hid (zoneP s false k = ⟨0, 0, 5, ((dgK s (dgK s (k + 1) 2) 2 : Nat) : Int), dgK s (dgK s (k + 1) 2) 2⟩) := Lib.hid (by simp [zoneP, znP, badZ, F1.out, hM, F14.out, F15.out])
            have CFO : Hid (∀ w0, ScanAt b s ((dgK s (dgK s (k + 1) 2) 2 : Nat) : Int) w0 → Calls Tryz.prog 26 #[.pointer (some ⟨b, 0, none⟩)] w0 fun e w' => e = .returned (.agg #[.int .i64 5, .int .i64 ((dgK s (dgK s (k + 1) 2) 2 : Nat) : Int)]) ∧ Below w0.heap.size w0 w') := Lib.hid fun w0 h => form_any b s (dgK s (dgK s (k + 1) 2) 2) w0 h
            go_wp2_with (first
              | (go_at_call 49; (with_reducible refine (C15.out _ S14.out).mono ?_); rintro e w15 ⟨rfl, hS, hO⟩; have S15 := Lib.hid hS; have O15 := Lib.hid (O14.out.trans hO); have L15 := Lib.hid (L14.out.only hO (by have := HBL.out; omega)); obtain ⟨-, ⟨c0, f0⟩, ⟨c1, f1⟩⟩ := L15.out; obtain ⟨-, -, k1, kf⟩ := hS; clear hO)
              | (go_at_call 26; (with_reducible refine (CFO.out _ S15.out).mono ?_); rintro e wz ⟨rfl, hb⟩; have HSZ := Lib.hid (S15.out.call hb); have HOZ := Lib.hid (O15.out.then hb HBW.out); have HLZ := Lib.hid (L15.out.call hb); obtain ⟨-, ⟨c0, f0⟩, ⟨c1, f1⟩⟩ := HLZ.out; clear hb))
            have hq := HLZ.out.put (.int .i64 5) (.int .i64 (((dgK s (dgK s (k + 1) 2) 2 : Nat) : Int)))
            exact bodyPost_ret (v := .tuple #[.int .i64 (0), .int .i64 (0), .agg #[.int .i64 5, .int .i64 (((dgK s (dgK s (k + 1) 2) 2 : Nat) : Int))]]) (by simp [results, Tryz.results25, go_sem, hq.2.1.1, hq.2.2.1]) rfl ⟨0, 0, by rw [HP.out], by rw [HP.out]; exact fun h => absurd h five_ne, by rw [HP.out]; exact ScanAt.res HSZ.out HBL.out _ _, HOZ.out.res HBL.out _ _⟩
          · have C15 : Hid (∀ w0, ScanAt b s ((dgK s (k + 1) 2 : Nat) : Int) w0 → Calls Tryz.prog 49 #[.pointer (some ⟨b, 0, none⟩), .int .i64 2] w0 fun e w' => e = .returned (.tuple #[.int .i64 ((dgN s (dgK s (k + 1) 2) 2 : Nat) : Int), .bool true]) ∧ ScanAt b s ((dgK s (dgK s (k + 1) 2) 2 : Nat) : Int) w' ∧ Only b w0 w') := Lib.hid fun w0 h => by
                have q := take_any b s (dgK s (k + 1) 2) 2 2 rfl w0 h (dgK_le hkl) hs (by omega)
                rw [h15] at q
                exact q
            have hx15 := dgN_lt s (dgK s (k + 1) 2) 2
            have F15 := Lib.hid h15; clear h15
            obtain ⟨M, hMm⟩ : ∃ M, dgN s (dgK s (k + 1) 2) 2 = M := ⟨_, rfl⟩
            rw [hMm] at C15
            have hMl : M < 100 := by rw [← hMm]; exact dgN_lt s _ 2
            rcases (show 23 < H ∨ (¬ 23 < H ∧ 59 < M) ∨ (¬ 23 < H ∧ ¬ 59 < M) by omega) with g | ⟨g1, g⟩ | ⟨g1, g⟩
            · have d1 : decide (23 < H) = true := decide_eq_true g; have d1i : decide (23 < (H : Int)) = true := decide_eq_true (by omega)
              have HP : Hid (zoneP s false k = ⟨0, 0, 3, -1, dgK s (dgK s (k + 1) 2) 2⟩) := Lib.hid (by simp [zoneP, znP, F1.out, hM, F14.out, F15.out, hH, hMm, g])
              have CBA : Hid (∀ w0, Calls Tryz.prog 28 #[.int .i64 3] w0 fun e w' => e = .returned (.agg #[.int .i64 3, .int .i64 (-1)]) ∧ Below w0.heap.size w0 w') := Lib.hid fun w0 => badR_any _ w0
              go_wp2_with (first
                | (go_at_call 49; (with_reducible refine (C15.out _ S14.out).mono ?_); rintro e w15 ⟨rfl, hS, hO⟩; have S15 := Lib.hid hS; have O15 := Lib.hid (O14.out.trans hO); have L15 := Lib.hid (L14.out.only hO (by have := HBL.out; omega)); obtain ⟨-, ⟨c0, f0⟩, ⟨c1, f1⟩⟩ := L15.out; obtain ⟨-, -, k1, kf⟩ := hS; clear hO)
                | (go_at_call 28; (with_reducible refine (CBA.out _).mono ?_); rintro e wz ⟨rfl, hb⟩; have HSZ := Lib.hid (S15.out.call hb); have HOZ := Lib.hid (O15.out.then hb HBW.out); have HLZ := Lib.hid (L15.out.call hb); obtain ⟨-, ⟨c0, f0⟩, ⟨c1, f1⟩⟩ := HLZ.out; clear hb))
              have hq := HLZ.out.put (.int .i64 3) (.int .i64 (-1))
              exact bodyPost_ret (v := .tuple #[.int .i64 (0), .int .i64 (0), .agg #[.int .i64 3, .int .i64 (-1)]]) (by simp [results, Tryz.results25, go_sem, hq.2.1.1, hq.2.2.1]) rfl ⟨0, 0, by rw [HP.out], by rw [HP.out]; exact fun h => absurd h three_ne, by rw [HP.out]; exact ScanAt.res HSZ.out HBL.out _ _, HOZ.out.res HBL.out _ _⟩
            · have d1 : decide (23 < H) = false := decide_eq_false g1; have d1i : decide (23 < (H : Int)) = false := decide_eq_false (by omega); have d2 : decide (59 < M) = true := decide_eq_true g; have d2i : decide (59 < (M : Int)) = true := decide_eq_true (by omega)
              have HP : Hid (zoneP s false k = ⟨0, 0, 3, -1, dgK s (dgK s (k + 1) 2) 2⟩) := Lib.hid (by simp [zoneP, znP, F1.out, hM, F14.out, F15.out, hH, hMm, g])
              have CBA : Hid (∀ w0, Calls Tryz.prog 28 #[.int .i64 3] w0 fun e w' => e = .returned (.agg #[.int .i64 3, .int .i64 (-1)]) ∧ Below w0.heap.size w0 w') := Lib.hid fun w0 => badR_any _ w0
              go_wp2_with (first
                | (go_at_call 49; (with_reducible refine (C15.out _ S14.out).mono ?_); rintro e w15 ⟨rfl, hS, hO⟩; have S15 := Lib.hid hS; have O15 := Lib.hid (O14.out.trans hO); have L15 := Lib.hid (L14.out.only hO (by have := HBL.out; omega)); obtain ⟨-, ⟨c0, f0⟩, ⟨c1, f1⟩⟩ := L15.out; obtain ⟨-, -, k1, kf⟩ := hS; clear hO)
                | (go_at_call 28; (with_reducible refine (CBA.out _).mono ?_); rintro e wz ⟨rfl, hb⟩; have HSZ := Lib.hid (S15.out.call hb); have HOZ := Lib.hid (O15.out.then hb HBW.out); have HLZ := Lib.hid (L15.out.call hb); obtain ⟨-, ⟨c0, f0⟩, ⟨c1, f1⟩⟩ := HLZ.out; clear hb))
              have hq := HLZ.out.put (.int .i64 3) (.int .i64 (-1))
              exact bodyPost_ret (v := .tuple #[.int .i64 (0), .int .i64 (0), .agg #[.int .i64 3, .int .i64 (-1)]]) (by simp [results, Tryz.results25, go_sem, hq.2.1.1, hq.2.2.1]) rfl ⟨0, 0, by rw [HP.out], by rw [HP.out]; exact fun h => absurd h three_ne, by rw [HP.out]; exact ScanAt.res HSZ.out HBL.out _ _, HOZ.out.res HBL.out _ _⟩
            · have d1 : decide (23 < H) = false := decide_eq_false g1; have d1i : decide (23 < (H : Int)) = false := decide_eq_false (by omega); have d2 : decide (59 < M) = false := decide_eq_false g; have d2i : decide (59 < (M : Int)) = false := decide_eq_false (by omega)
              have HP : Hid (zoneP s false k = ⟨2, -1 * ((H : Int) * 60 + (M : Int)) * 60, 0, -1, dgK s (dgK s (k + 1) 2) 2⟩) := Lib.hid (by simp [zoneP, znP, F1.out, hM, F14.out, F15.out, hH, hMm, g1, g])
              have CFI : Hid (∀ w0, Calls Tryz.prog 29 #[] w0 fun e w' => e = .returned (.agg #[.int .i64 0, .int .i64 (-1)]) ∧ Below w0.heap.size w0 w') := Lib.hid fineR_any
              go_wp2_with (first
                | (go_at_call 49; (with_reducible refine (C15.out _ S14.out).mono ?_); rintro e w15 ⟨rfl, hS, hO⟩; have S15 := Lib.hid hS; have O15 := Lib.hid (O14.out.trans hO); have L15 := Lib.hid (L14.out.only hO (by have := HBL.out; omega)); obtain ⟨-, ⟨c0, f0⟩, ⟨c1, f1⟩⟩ := L15.out; obtain ⟨-, -, k1, kf⟩ := hS; clear hO)
                | (go_at_call 29; (with_reducible refine (CFI.out _).mono ?_); rintro e wz ⟨rfl, hb⟩; have HSZ := Lib.hid (S15.out.call hb); have HOZ := Lib.hid (O15.out.then hb HBW.out); have HLZ := Lib.hid (L15.out.call hb); obtain ⟨-, ⟨c0, f0⟩, ⟨c1, f1⟩⟩ := HLZ.out; clear hb))
              have hq := HLZ.out.put (.int .i64 0) (.int .i64 (-1))
              exact bodyPost_ret (v := .tuple #[.int .i64 (2), .int .i64 (-1 * ((H : Int) * 3600 + (M : Int) * 60)), .agg #[.int .i64 0, .int .i64 (-1)]]) (by simp [results, Tryz.results25, go_sem, hq.2.1.1, hq.2.2.1] <;> omega) rfl ⟨2, -1 * ((H : Int) * 3600 + (M : Int) * 60), by rw [HP.out], by rw [HP.out]; exact fun _ => ⟨rfl, by first | rfl | (dsimp only; omega)⟩, by rw [HP.out]; exact ScanAt.res HSZ.out HBL.out _ _, HOZ.out.res HBL.out _ _⟩
        · skip
          go_wp2_with (first
            | (go_at_call 49; (with_reducible refine (C14.out _ SA13.out).mono ?_); rintro e w14 ⟨rfl, hS, hO⟩; have S14 := Lib.hid hS; have O14 := Lib.hid (OA13.out.trans hO); have L14 := Lib.hid (LA13.out.only hO (by have := HBL.out; omega)); obtain ⟨-, ⟨c0, f0⟩, ⟨c1, f1⟩⟩ := L14.out; obtain ⟨-, -, k1, kf⟩ := hS; clear hO))
          rcases bool_or (isB s (dgK s (k + 1) 2) 58) with h16 | h16
          · have C16 : Hid (∀ w0, ScanAt b s ((dgK s (k + 1) 2 : Nat) : Int) w0 → Calls Tryz.prog 23 #[.pointer (some ⟨b, 0, none⟩), .int .u8 58] w0 fun e w' => e = .returned (.bool false) ∧ ScanAt b s ((dgK s (k + 1) 2 : Nat) : Int) w' ∧ Only b w0 w') := Lib.hid fun w0 h => by
                have q := ris_any b s (dgK s (k + 1) 2) 58 w0 h hs
                rw [h16, isK_no h16] at q
                exact q
            have F16 := Lib.hid h16; clear h16
            have HP : Hid (zoneP s true k = ⟨0, 0, 5, ((dgK s (k + 1) 2 : Nat) : Int), dgK s (k + 1) 2⟩) := Lib.hid (by simp [zoneP, znP, badZ, F1.out, hM, F14.out, F16.out])
            have CFO : Hid (∀ w0, ScanAt b s ((dgK s (k + 1) 2 : Nat) : Int) w0 → Calls Tryz.prog 26 #[.pointer (some ⟨b, 0, none⟩)] w0 fun e w' => e = .returned (.agg #[.int .i64 5, .int .i64 ((dgK s (k + 1) 2 : Nat) : Int)]) ∧ Below w0.heap.size w0 w') := Lib.hid fun w0 h => form_any b s (dgK s (k + 1) 2) w0 h
            go_wp2_with (first
              | (go_at_call 23; (with_reducible refine (C16.out _ S14.out).mono ?_); rintro e w16 ⟨rfl, hS, hO⟩; have S16 := Lib.hid hS; have O16 := Lib.hid (O14.out.trans hO); have L16 := Lib.hid (L14.out.only hO (by have := HBL.out; omega)); obtain ⟨-, ⟨c0, f0⟩, ⟨c1, f1⟩⟩ := L16.out; obtain ⟨-, -, k1, kf⟩ := hS; clear hO)
              | (go_at_call 26; (with_reducible refine (CFO.out _ S16.out).mono ?_); rintro e wz ⟨rfl, hb⟩; have HSZ := Lib.hid (S16.out.call hb); have HOZ := Lib.hid (O16.out.then hb HBW.out); have HLZ := Lib.hid (L16.out.call hb); obtain ⟨-, ⟨c0, f0⟩, ⟨c1, f1⟩⟩ := HLZ.out; clear hb))
            have hq := HLZ.out.put (.int .i64 5) (.int .i64 (((dgK s (k + 1) 2 : Nat) : Int)))
            exact bodyPost_ret (v := .tuple #[.int .i64 (0), .int .i64 (0), .agg #[.int .i64 5, .int .i64 (((dgK s (k + 1) 2 : Nat) : Int))]]) (by simp [results, Tryz.results25, go_sem, hq.2.1.1, hq.2.2.1]) rfl ⟨0, 0, by rw [HP.out], by rw [HP.out]; exact fun h => absurd h five_ne, by rw [HP.out]; exact ScanAt.res HSZ.out HBL.out _ _, HOZ.out.res HBL.out _ _⟩
          · have C16 : Hid (∀ w0, ScanAt b s ((dgK s (k + 1) 2 : Nat) : Int) w0 → Calls Tryz.prog 23 #[.pointer (some ⟨b, 0, none⟩), .int .u8 58] w0 fun e w' => e = .returned (.bool true) ∧ ScanAt b s ((dgK s (k + 1) 2 + 1 : Nat) : Int) w' ∧ Only b w0 w') := Lib.hid fun w0 h => by
                have q := ris_any b s (dgK s (k + 1) 2) 58 w0 h hs
                rw [h16, isK_yes h16] at q
                exact q
            have F16 := Lib.hid h16; clear h16
            go_wp2_with (first
              | (go_at_call 23; (with_reducible refine (C16.out _ S14.out).mono ?_); rintro e w16 ⟨rfl, hS, hO⟩; have S16 := Lib.hid hS; have O16 := Lib.hid (O14.out.trans hO); have L16 := Lib.hid (L14.out.only hO (by have := HBL.out; omega)); obtain ⟨-, ⟨c0, f0⟩, ⟨c1, f1⟩⟩ := L16.out; obtain ⟨-, -, k1, kf⟩ := hS; clear hO))
            rcases bool_or (dgB s (dgK s (k + 1) 2 + 1) 2) with h17 | h17
            · have C17 : Hid (∀ w0, ScanAt b s ((dgK s (k + 1) 2 + 1 : Nat) : Int) w0 → Calls Tryz.prog 49 #[.pointer (some ⟨b, 0, none⟩), .int .i64 2] w0 fun e w' => e = .returned (.tuple #[.int .i64 ((dgN s (dgK s (k + 1) 2 + 1) 2 : Nat) : Int), .bool false]) ∧ ScanAt b s ((dgK s (dgK s (k + 1) 2 + 1) 2 : Nat) : Int) w' ∧ Only b w0 w') := Lib.hid fun w0 h => by
                  have q := take_any b s (dgK s (k + 1) 2 + 1) 2 2 rfl w0 h (isB_lt F16.out) hs (by omega)
                  rw [h17] at q
                  exact q
              have hx17 := dgN_lt s (dgK s (k + 1) 2 + 1) 2
              have F17 := Lib.hid h17; clear h17
              have HP : Hid (zoneP s true k = ⟨0, 0, 5, ((dgK s (dgK s (k + 1) 2 + 1) 2 : Nat) : Int), dgK s (dgK s (k + 1) 2 + 1) 2⟩) := Lib.hid (by simp [zoneP, znP, badZ, F1.out, hM, F14.out, F16.out, F17.out])
              have CFO : Hid (∀ w0, ScanAt b s ((dgK s (dgK s (k + 1) 2 + 1) 2 : Nat) : Int) w0 → Calls Tryz.prog 26 #[.pointer (some ⟨b, 0, none⟩)] w0 fun e w' => e = .returned (.agg #[.int .i64 5, .int .i64 ((dgK s (dgK s (k + 1) 2 + 1) 2 : Nat) : Int)]) ∧ Below w0.heap.size w0 w') := Lib.hid fun w0 h => form_any b s (dgK s (dgK s (k + 1) 2 + 1) 2) w0 h
              go_wp2_with (first
                | (go_at_call 49; (with_reducible refine (C17.out _ S16.out).mono ?_); rintro e w17 ⟨rfl, hS, hO⟩; have S17 := Lib.hid hS; have O17 := Lib.hid (O16.out.trans hO); have L17 := Lib.hid (L16.out.only hO (by have := HBL.out; omega)); obtain ⟨-, ⟨c0, f0⟩, ⟨c1, f1⟩⟩ := L17.out; obtain ⟨-, -, k1, kf⟩ := hS; clear hO)
                | (go_at_call 26; (with_reducible refine (CFO.out _ S17.out).mono ?_); rintro e wz ⟨rfl, hb⟩; have HSZ := Lib.hid (S17.out.call hb); have HOZ := Lib.hid (O17.out.then hb HBW.out); have HLZ := Lib.hid (L17.out.call hb); obtain ⟨-, ⟨c0, f0⟩, ⟨c1, f1⟩⟩ := HLZ.out; clear hb))
              have hq := HLZ.out.put (.int .i64 5) (.int .i64 (((dgK s (dgK s (k + 1) 2 + 1) 2 : Nat) : Int)))
              exact bodyPost_ret (v := .tuple #[.int .i64 (0), .int .i64 (0), .agg #[.int .i64 5, .int .i64 (((dgK s (dgK s (k + 1) 2 + 1) 2 : Nat) : Int))]]) (by simp [results, Tryz.results25, go_sem, hq.2.1.1, hq.2.2.1]) rfl ⟨0, 0, by rw [HP.out], by rw [HP.out]; exact fun h => absurd h five_ne, by rw [HP.out]; exact ScanAt.res HSZ.out HBL.out _ _, HOZ.out.res HBL.out _ _⟩
            · have C17 : Hid (∀ w0, ScanAt b s ((dgK s (k + 1) 2 + 1 : Nat) : Int) w0 → Calls Tryz.prog 49 #[.pointer (some ⟨b, 0, none⟩), .int .i64 2] w0 fun e w' => e = .returned (.tuple #[.int .i64 ((dgN s (dgK s (k + 1) 2 + 1) 2 : Nat) : Int), .bool true]) ∧ ScanAt b s ((dgK s (dgK s (k + 1) 2 + 1) 2 : Nat) : Int) w' ∧ Only b w0 w') := Lib.hid fun w0 h => by
                  have q := take_any b s (dgK s (k + 1) 2 + 1) 2 2 rfl w0 h (isB_lt F16.out) hs (by omega)
                  rw [h17] at q
                  exact q
              have hx17 := dgN_lt s (dgK s (k + 1) 2 + 1) 2
              have F17 := Lib.hid h17; clear h17
              obtain ⟨M, hMm⟩ : ∃ M, dgN s (dgK s (k + 1) 2 + 1) 2 = M := ⟨_, rfl⟩
              rw [hMm] at C17
              have hMl : M < 100 := by rw [← hMm]; exact dgN_lt s _ 2
              rcases (show 23 < H ∨ (¬ 23 < H ∧ 59 < M) ∨ (¬ 23 < H ∧ ¬ 59 < M) by omega) with g | ⟨g1, g⟩ | ⟨g1, g⟩
              · have d1 : decide (23 < H) = true := decide_eq_true g; have d1i : decide (23 < (H : Int)) = true := decide_eq_true (by omega)
                have HP : Hid (zoneP s true k = ⟨0, 0, 3, -1, dgK s (dgK s (k + 1) 2 + 1) 2⟩) := Lib.hid (by simp [zoneP, znP, F1.out, hM, F14.out, F16.out, F17.out, hH, hMm, g])
                have CBA : Hid (∀ w0, Calls Tryz.prog 28 #[.int .i64 3] w0 fun e w' => e = .returned (.agg #[.int .i64 3, .int .i64 (-1)]) ∧ Below w0.heap.size w0 w') := Lib.hid fun w0 => badR_any _ w0
                go_wp2_with (first
                  | (go_at_call 49; (with_reducible refine (C17.out _ S16.out).mono ?_); rintro e w17 ⟨rfl, hS, hO⟩; have S17 := Lib.hid hS; have O17 := Lib.hid (O16.out.trans hO); have L17 := Lib.hid (L16.out.only hO (by have := HBL.out; omega)); obtain ⟨-, ⟨c0, f0⟩, ⟨c1, f1⟩⟩ := L17.out; obtain ⟨-, -, k1, kf⟩ := hS; clear hO)
                  | (go_at_call 28; (with_reducible refine (CBA.out _).mono ?_); rintro e wz ⟨rfl, hb⟩; have HSZ := Lib.hid (S17.out.call hb); have HOZ := Lib.hid (O17.out.then hb HBW.out); have HLZ := Lib.hid (L17.out.call hb); obtain ⟨-, ⟨c0, f0⟩, ⟨c1, f1⟩⟩ := HLZ.out; clear hb))
                have hq := HLZ.out.put (.int .i64 3) (.int .i64 (-1))
                exact bodyPost_ret (v := .tuple #[.int .i64 (0), .int .i64 (0), .agg #[.int .i64 3, .int .i64 (-1)]]) (by simp [results, Tryz.results25, go_sem, hq.2.1.1, hq.2.2.1]) rfl ⟨0, 0, by rw [HP.out], by rw [HP.out]; exact fun h => absurd h three_ne, by rw [HP.out]; exact ScanAt.res HSZ.out HBL.out _ _, HOZ.out.res HBL.out _ _⟩
              · have d1 : decide (23 < H) = false := decide_eq_false g1; have d1i : decide (23 < (H : Int)) = false := decide_eq_false (by omega); have d2 : decide (59 < M) = true := decide_eq_true g; have d2i : decide (59 < (M : Int)) = true := decide_eq_true (by omega)
                have HP : Hid (zoneP s true k = ⟨0, 0, 3, -1, dgK s (dgK s (k + 1) 2 + 1) 2⟩) := Lib.hid (by simp [zoneP, znP, F1.out, hM, F14.out, F16.out, F17.out, hH, hMm, g])
                have CBA : Hid (∀ w0, Calls Tryz.prog 28 #[.int .i64 3] w0 fun e w' => e = .returned (.agg #[.int .i64 3, .int .i64 (-1)]) ∧ Below w0.heap.size w0 w') := Lib.hid fun w0 => badR_any _ w0
                go_wp2_with (first
                  | (go_at_call 49; (with_reducible refine (C17.out _ S16.out).mono ?_); rintro e w17 ⟨rfl, hS, hO⟩; have S17 := Lib.hid hS; have O17 := Lib.hid (O16.out.trans hO); have L17 := Lib.hid (L16.out.only hO (by have := HBL.out; omega)); obtain ⟨-, ⟨c0, f0⟩, ⟨c1, f1⟩⟩ := L17.out; obtain ⟨-, -, k1, kf⟩ := hS; clear hO)
                  | (go_at_call 28; (with_reducible refine (CBA.out _).mono ?_); rintro e wz ⟨rfl, hb⟩; have HSZ := Lib.hid (S17.out.call hb); have HOZ := Lib.hid (O17.out.then hb HBW.out); have HLZ := Lib.hid (L17.out.call hb); obtain ⟨-, ⟨c0, f0⟩, ⟨c1, f1⟩⟩ := HLZ.out; clear hb))
                have hq := HLZ.out.put (.int .i64 3) (.int .i64 (-1))
                exact bodyPost_ret (v := .tuple #[.int .i64 (0), .int .i64 (0), .agg #[.int .i64 3, .int .i64 (-1)]]) (by simp [results, Tryz.results25, go_sem, hq.2.1.1, hq.2.2.1]) rfl ⟨0, 0, by rw [HP.out], by rw [HP.out]; exact fun h => absurd h three_ne, by rw [HP.out]; exact ScanAt.res HSZ.out HBL.out _ _, HOZ.out.res HBL.out _ _⟩
              · have d1 : decide (23 < H) = false := decide_eq_false g1; have d1i : decide (23 < (H : Int)) = false := decide_eq_false (by omega); have d2 : decide (59 < M) = false := decide_eq_false g; have d2i : decide (59 < (M : Int)) = false := decide_eq_false (by omega)
                have HP : Hid (zoneP s true k = ⟨2, -1 * ((H : Int) * 60 + (M : Int)) * 60, 0, -1, dgK s (dgK s (k + 1) 2 + 1) 2⟩) := Lib.hid (by simp [zoneP, znP, F1.out, hM, F14.out, F16.out, F17.out, hH, hMm, g1, g])
                have CFI : Hid (∀ w0, Calls Tryz.prog 29 #[] w0 fun e w' => e = .returned (.agg #[.int .i64 0, .int .i64 (-1)]) ∧ Below w0.heap.size w0 w') := Lib.hid fineR_any
                go_wp2_with (first
                  | (go_at_call 49; (with_reducible refine (C17.out _ S16.out).mono ?_); rintro e w17 ⟨rfl, hS, hO⟩; have S17 := Lib.hid hS; have O17 := Lib.hid (O16.out.trans hO); have L17 := Lib.hid (L16.out.only hO (by have := HBL.out; omega)); obtain ⟨-, ⟨c0, f0⟩, ⟨c1, f1⟩⟩ := L17.out; obtain ⟨-, -, k1, kf⟩ := hS; clear hO)
                  | (go_at_call 29; (with_reducible refine (CFI.out _).mono ?_); rintro e wz ⟨rfl, hb⟩; have HSZ := Lib.hid (S17.out.call hb); have HOZ := Lib.hid (O17.out.then hb HBW.out); have HLZ := Lib.hid (L17.out.call hb); obtain ⟨-, ⟨c0, f0⟩, ⟨c1, f1⟩⟩ := HLZ.out; clear hb))
                have hq := HLZ.out.put (.int .i64 0) (.int .i64 (-1))
                exact bodyPost_ret (v := .tuple #[.int .i64 (2), .int .i64 (-1 * ((H : Int) * 3600 + (M : Int) * 60)), .agg #[.int .i64 0, .int .i64 (-1)]]) (by simp [results, Tryz.results25, go_sem, hq.2.1.1, hq.2.2.1] <;> omega) rfl ⟨2, -1 * ((H : Int) * 3600 + (M : Int) * 60), by rw [HP.out], by rw [HP.out]; exact fun _ => ⟨rfl, by first | rfl | (dsimp only; omega)⟩, by rw [HP.out]; exact ScanAt.res HSZ.out HBL.out _ _, HOZ.out.res HBL.out _ _⟩
  · have C1 : Hid (∀ w0, ScanAt b s ((k : Nat) : Int) w0 → Calls Tryz.prog 23 #[.pointer (some ⟨b, 0, none⟩), .int .u8 90] w0 fun e w' => e = .returned (.bool true) ∧ ScanAt b s ((k + 1 : Nat) : Int) w' ∧ Only b w0 w') := Lib.hid fun w0 h => by
        have q := ris_any b s (k) 90 w0 h hs
        rw [h1, isK_yes h1] at q
        exact q
    have F1 := Lib.hid h1; clear h1
    have HP : Hid (zoneP s wd k = ⟨1, 0, 0, -1, k + 1⟩) := Lib.hid (by simp [zoneP, F1.out])
    have CFI : Hid (∀ w0, Calls Tryz.prog 29 #[] w0 fun e w' => e = .returned (.agg #[.int .i64 0, .int .i64 (-1)]) ∧ Below w0.heap.size w0 w') := Lib.hid fineR_any
    go_wp2_with (first
      | (go_at_call 23; (with_reducible refine (C1.out _ S0.out).mono ?_); rintro e w1 ⟨rfl, hS, hO⟩; have S1 := Lib.hid hS; have O1 := Lib.hid (O0.out.trans hO); have L1 := Lib.hid (L0.out.only hO (by have := HBL.out; omega)); obtain ⟨-, ⟨c0, f0⟩, ⟨c1, f1⟩⟩ := L1.out; obtain ⟨-, -, k1, kf⟩ := hS; clear hO)
      | (go_at_call 29; (with_reducible refine (CFI.out _).mono ?_); rintro e wz ⟨rfl, hb⟩; have HSZ := Lib.hid (S1.out.call hb); have HOZ := Lib.hid (O1.out.then hb HBW.out); have HLZ := Lib.hid (L1.out.call hb); obtain ⟨-, ⟨c0, f0⟩, ⟨c1, f1⟩⟩ := HLZ.out; clear hb))
    have hq := HLZ.out.put (.int .i64 0) (.int .i64 (-1))
    exact bodyPost_ret (v := .tuple #[.int .i64 (1), .int .i64 (0), .agg #[.int .i64 0, .int .i64 (-1)]]) (by simp [results, Tryz.results25, go_sem, hq.2.1.1, hq.2.2.1]) rfl ⟨1, 0, by rw [HP.out], by rw [HP.out]; exact fun _ => ⟨rfl, by first | rfl | (dsimp only; omega)⟩, by rw [HP.out]; exact ScanAt.res HSZ.out HBL.out _ _, HOZ.out.res HBL.out _ _⟩
set_option maxRecDepth 100000 in
set_option maxHeartbeats 16000000 in
theorem rclock_any (b : Nat) (s : ByteArray) (k : Nat) (wd : Bool) (w : World) (h : ScanAt b s k w) (hk : k ≤ s.size) (hs : s.size ≤ 9223372036854775807) :
    Calls Tryz.prog 24 #[.pointer (some ⟨b, 0, none⟩), .bool wd] w (RcPost b s (clockP s wd k) w) := by
  have HBL : Hid (b < w.heap.size) := Lib.hid h.1
  have HBW : Hid (b ≤ w.heap.size) := Lib.hid (Nat.le_of_lt h.1)
  have S0 : Hid (ScanAt b s (k : Int) (w.alloc (.cells #[.int .i64 0, .int .i64 0] 29))) := Lib.hid (h.alloc _)
  have O0 : Hid (Only b w (w.alloc (.cells #[.int .i64 0, .int .i64 0] 29))) := Lib.hid ((Only.refl b w).alloc (Nat.le_of_lt h.1) _)
  have L0 : Hid (L2 w.heap.size (.int .i64 0) (.int .i64 0) (w.alloc (.cells #[.int .i64 0, .int .i64 0] 29))) := Lib.hid (L2.new w _)
  clear h
  go_enter Tryz.func24, Tryz.ntmps24
  rcases bool_or (dgB s (k) 2) with h1 | h1
  · have C1 : Hid (∀ w0, ScanAt b s ((k : Nat) : Int) w0 → Calls Tryz.prog 49 #[.pointer (some ⟨b, 0, none⟩), .int .i64 2] w0 fun e w' => e = .returned (.tuple #[.int .i64 ((dgN s (k) 2 : Nat) : Int), .bool false]) ∧ ScanAt b s ((dgK s (k) 2 : Nat) : Int) w' ∧ Only b w0 w') := Lib.hid fun w0 h => by
        have q := take_any b s (k) 2 2 rfl w0 h hk hs (by omega)
        rw [h1] at q
        exact q
    have hx1 := dgN_lt s (k) 2
    have F1 := Lib.hid h1; clear h1
    have HP : Hid (clockP s wd k = ⟨0, 5, ((dgK s (k) 2 : Nat) : Int), dgK s (k) 2⟩) := Lib.hid (by simp [clockP, badC, F1.out])
    have CFO : Hid (∀ w0, ScanAt b s ((dgK s (k) 2 : Nat) : Int) w0 → Calls Tryz.prog 26 #[.pointer (some ⟨b, 0, none⟩)] w0 fun e w' => e = .returned (.agg #[.int .i64 5, .int .i64 ((dgK s (k) 2 : Nat) : Int)]) ∧ Below w0.heap.size w0 w') := Lib.hid fun w0 h => form_any b s (dgK s (k) 2) w0 h
    go_wp2_with (first
      | (go_at_call 49; (with_reducible refine (C1.out _ S0.out).mono ?_); rintro e w1 ⟨rfl, hS, hO⟩; have S1 := Lib.hid hS; have O1 := Lib.hid (O0.out.trans hO); have L1 := Lib.hid (L0.out.only hO (by have := HBL.out; omega)); obtain ⟨-, ⟨c0, f0⟩, ⟨c1, f1⟩⟩ := L1.out; obtain ⟨-, -, k1, kf⟩ := hS; clear hO)
      | (go_at_call 26; (with_reducible refine (CFO.out _ S1.out).mono ?_); rintro e wz ⟨rfl, hb⟩; have HSZ := Lib.hid (S1.out.call hb); have HOZ := Lib.hid (O1.out.then hb HBW.out); have HLZ := Lib.hid (L1.out.call hb); obtain ⟨-, ⟨c0, f0⟩, ⟨c1, f1⟩⟩ := HLZ.out; clear hb))
    have hq := HLZ.out.put (.int .i64 5) (.int .i64 (((dgK s (k) 2 : Nat) : Int)))
    exact bodyPost_ret (v := .tuple #[.int .i64 (0), .agg #[.int .i64 5, .int .i64 (((dgK s (k) 2 : Nat) : Int))]]) (by simp [results, Tryz.results24, go_sem, hq.2.1.1, hq.2.2.1]) rfl ⟨0, by rw [HP.out], by rw [HP.out]; exact fun h => absurd h five_ne, by rw [HP.out]; exact ScanAt.res HSZ.out HBL.out _ _, HOZ.out.res HBL.out _ _⟩
  · have C1 : Hid (∀ w0, ScanAt b s ((k : Nat) : Int) w0 → Calls Tryz.prog 49 #[.pointer (some ⟨b, 0, none⟩), .int .i64 2] w0 fun e w' => e = .returned (.tuple #[.int .i64 ((dgN s (k) 2 : Nat) : Int), .bool true]) ∧ ScanAt b s ((dgK s (k) 2 : Nat) : Int) w' ∧ Only b w0 w') := Lib.hid fun w0 h => by
        have q := take_any b s (k) 2 2 rfl w0 h hk hs (by omega)
        rw [h1] at q
        exact q
    have hx1 := dgN_lt s (k) 2
    have F1 := Lib.hid h1; clear h1
    obtain ⟨H0, hH0⟩ : ∃ H, dgN s (k) 2 = H := ⟨_, rfl⟩
    rw [hH0] at C1
    have hl0 : H0 < 100 := by rw [← hH0]; exact dgN_lt s _ 2
    rcases wd with _ | _
    · skip
      go_wp2_with (first
        | (go_at_call 49; (with_reducible refine (C1.out _ S0.out).mono ?_); rintro e w1 ⟨rfl, hS, hO⟩; have S1 := Lib.hid hS; have O1 := Lib.hid (O0.out.trans hO); have L1 := Lib.hid (L0.out.only hO (by have := HBL.out; omega)); obtain ⟨-, ⟨c0, f0⟩, ⟨c1, f1⟩⟩ := L1.out; obtain ⟨-, -, k1, kf⟩ := hS; clear hO))
      rcases bool_or (dgB s (dgK s (k) 2) 2) with h2 | h2
      · have C2 : Hid (∀ w0, ScanAt b s ((dgK s (k) 2 : Nat) : Int) w0 → Calls Tryz.prog 49 #[.pointer (some ⟨b, 0, none⟩), .int .i64 2] w0 fun e w' => e = .returned (.tuple #[.int .i64 ((dgN s (dgK s (k) 2) 2 : Nat) : Int), .bool false]) ∧ ScanAt b s ((dgK s (dgK s (k) 2) 2 : Nat) : Int) w' ∧ Only b w0 w') := Lib.hid fun w0 h => by
            have q := take_any b s (dgK s (k) 2) 2 2 rfl w0 h (dgK_le hk) hs (by omega)
            rw [h2] at q
            exact q
        have hx2 := dgN_lt s (dgK s (k) 2) 2
        have F2 := Lib.hid h2; clear h2
        have HP : Hid (clockP s false k = ⟨0, 5, ((dgK s (dgK s (k) 2) 2 : Nat) : Int), dgK s (dgK s (k) 2) 2⟩) := Lib.hid (by simp [clockP, badC, F1.out, F2.out])
        have CFO : Hid (∀ w0, ScanAt b s ((dgK s (dgK s (k) 2) 2 : Nat) : Int) w0 → Calls Tryz.prog 26 #[.pointer (some ⟨b, 0, none⟩)] w0 fun e w' => e = .returned (.agg #[.int .i64 5, .int .i64 ((dgK s (dgK s (k) 2) 2 : Nat) : Int)]) ∧ Below w0.heap.size w0 w') := Lib.hid fun w0 h => form_any b s (dgK s (dgK s (k) 2) 2) w0 h
        go_wp2_with (first
          | (go_at_call 49; (with_reducible refine (C2.out _ S1.out).mono ?_); rintro e w2 ⟨rfl, hS, hO⟩; have S2 := Lib.hid hS; have O2 := Lib.hid (O1.out.trans hO); have L2 := Lib.hid (L1.out.only hO (by have := HBL.out; omega)); obtain ⟨-, ⟨c0, f0⟩, ⟨c1, f1⟩⟩ := L2.out; obtain ⟨-, -, k1, kf⟩ := hS; clear hO)
          | (go_at_call 26; (with_reducible refine (CFO.out _ S2.out).mono ?_); rintro e wz ⟨rfl, hb⟩; have HSZ := Lib.hid (S2.out.call hb); have HOZ := Lib.hid (O2.out.then hb HBW.out); have HLZ := Lib.hid (L2.out.call hb); obtain ⟨-, ⟨c0, f0⟩, ⟨c1, f1⟩⟩ := HLZ.out; clear hb))
        have hq := HLZ.out.put (.int .i64 5) (.int .i64 (((dgK s (dgK s (k) 2) 2 : Nat) : Int)))
        exact bodyPost_ret (v := .tuple #[.int .i64 (0), .agg #[.int .i64 5, .int .i64 (((dgK s (dgK s (k) 2) 2 : Nat) : Int))]]) (by simp [results, Tryz.results24, go_sem, hq.2.1.1, hq.2.2.1]) rfl ⟨0, by rw [HP.out], by rw [HP.out]; exact fun h => absurd h five_ne, by rw [HP.out]; exact ScanAt.res HSZ.out HBL.out _ _, HOZ.out.res HBL.out _ _⟩
      · have C2 : Hid (∀ w0, ScanAt b s ((dgK s (k) 2 : Nat) : Int) w0 → Calls Tryz.prog 49 #[.pointer (some ⟨b, 0, none⟩), .int .i64 2] w0 fun e w' => e = .returned (.tuple #[.int .i64 ((dgN s (dgK s (k) 2) 2 : Nat) : Int), .bool true]) ∧ ScanAt b s ((dgK s (dgK s (k) 2) 2 : Nat) : Int) w' ∧ Only b w0 w') := Lib.hid fun w0 h => by
            have q := take_any b s (dgK s (k) 2) 2 2 rfl w0 h (dgK_le hk) hs (by omega)
            rw [h2] at q
            exact q
        have hx2 := dgN_lt s (dgK s (k) 2) 2
        have F2 := Lib.hid h2; clear h2
        obtain ⟨H1, hH1⟩ : ∃ H, dgN s (dgK s (k) 2) 2 = H := ⟨_, rfl⟩
        rw [hH1] at C2
        have hl1 : H1 < 100 := by rw [← hH1]; exact dgN_lt s _ 2
        go_wp2_with (first
          | (go_at_call 49; (with_reducible refine (C2.out _ S1.out).mono ?_); rintro e w2 ⟨rfl, hS, hO⟩; have S2 := Lib.hid hS; have O2 := Lib.hid (O1.out.trans hO); have L2 := Lib.hid (L1.out.only hO (by have := HBL.out; omega)); obtain ⟨-, ⟨c0, f0⟩, ⟨c1, f1⟩⟩ := L2.out; obtain ⟨-, -, k1, kf⟩ := hS; clear hO))
        have C3 : Hid (∀ w0, ScanAt b s ((dgK s (dgK s (k) 2) 2 : Nat) : Int) w0 → Calls Tryz.prog 51 #[.pointer (some ⟨b, 0, none⟩)] w0 fun e w' => e = .returned (.int .i64 ((run_ s (dgK s (dgK s (k) 2) 2) : Nat) : Int)) ∧ ∃ q, w' = w0.drewN q) := Lib.hid fun w0 h => rrun_any b s (dgK s (dgK s (k) 2) 2) w0 h (dgK_le (dgK_le hk)) hs
        obtain ⟨R3, hR3⟩ : ∃ R, run_ s (dgK s (dgK s (k) 2) 2) = R := ⟨_, rfl⟩; rw [hR3] at C3
        by_cases r3 : R3 = 0
        · subst r3
          rcases (show (H0 = 24 ∧ H1 = 0) ∨ (H0 = 24 ∧ H1 ≠ 0) ∨ (H0 ≠ 24 ∧ 23 < H0) ∨ (¬ 23 < H0 ∧ 59 < H1) ∨ (¬ 23 < H0 ∧ ¬ 59 < H1) by omega) with ⟨g0, g1⟩ | ⟨g0, g1⟩ | ⟨g0, g1⟩ | ⟨g0, g1⟩ | ⟨g0, g1⟩
          · skip
            have e0 : ((H0 : Int) == 24) = true := by first | (simp; done) | (simp; omega)
            have e0n : (H0 == 24) = true := by first | (simp; done) | (simp; omega)
            have e1 : ((H1 : Int) == 0) = true := by first | (simp; done) | (simp; omega)
            have e1n : (H1 == 0) = true := by first | (simp; done) | (simp; omega)
            have HP : Hid (clockP s false k = ⟨86400, 0, -1, dgK s (dgK s (k) 2) 2⟩) := Lib.hid (by simp [clockP, ckEnd, F1.out, hH0, F2.out, hH1, hR3, g0, g1] <;> (intros; omega))
            have CFI : Hid (∀ w0, Calls Tryz.prog 29 #[] w0 fun e w' => e = .returned (.agg #[.int .i64 0, .int .i64 (-1)]) ∧ Below w0.heap.size w0 w') := Lib.hid fineR_any
            go_wp2_with (first
              | (go_at_call 51; (with_reducible refine (C3.out _ S2.out).mono ?_); rintro e w3 ⟨rfl, q, rfl⟩; have hsa := S2.out.drewN q; have hoa := O2.out.drewN q; have hla := L2.out.drewN q; (try simp only [World.drewN_drewN] at hsa hoa hla); have S3 := Lib.hid hsa; have O3 := Lib.hid hoa; have L3 := Lib.hid hla; clear hsa hoa hla)
              | (go_at_call 29; (with_reducible refine (CFI.out _).mono ?_); rintro e wz ⟨rfl, hb⟩; have HSZ := Lib.hid (S3.out.call hb); have HOZ := Lib.hid (O3.out.then hb HBW.out); have HLZ := Lib.hid (L3.out.call hb); obtain ⟨-, ⟨c0, f0⟩, ⟨c1, f1⟩⟩ := HLZ.out; clear hb))
            have hq := HLZ.out.put (.int .i64 0) (.int .i64 (-1))
            exact bodyPost_ret (v := .tuple #[.int .i64 (86400), .agg #[.int .i64 0, .int .i64 (-1)]]) (by simp [results, Tryz.results24, go_sem, hq.2.1.1, hq.2.2.1]) rfl ⟨86400, by rw [HP.out], by rw [HP.out]; exact fun _ => by first | rfl | (dsimp only; omega), by rw [HP.out]; exact ScanAt.res HSZ.out HBL.out _ _, HOZ.out.res HBL.out _ _⟩
          · skip
            have e0 : ((H0 : Int) == 24) = true := by first | (simp; done) | (simp; omega)
            have e0n : (H0 == 24) = true := by first | (simp; done) | (simp; omega)
            have e1 : ((H1 : Int) == 0) = false := by first | (simp; done) | (simp; omega)
            have e1n : (H1 == 0) = false := by first | (simp; done) | (simp; omega)
            have l0 : decide (23 < (H0 : Int)) = true := by first | (simp; done) | (simp; omega)
            have l0n : decide (23 < H0) = true := by first | (simp; done) | (simp; omega)
            have HP : Hid (clockP s false k = ⟨0, 3, -1, dgK s (dgK s (k) 2) 2⟩) := Lib.hid (by simp [clockP, ckEnd, F1.out, hH0, F2.out, hH1, hR3, g0, g1] <;> (intros; omega))
            have CBA : Hid (∀ w0, Calls Tryz.prog 28 #[.int .i64 3] w0 fun e w' => e = .returned (.agg #[.int .i64 3, .int .i64 (-1)]) ∧ Below w0.heap.size w0 w') := Lib.hid fun w0 => badR_any _ w0
            go_wp2_with (first
              | (go_at_call 51; (with_reducible refine (C3.out _ S2.out).mono ?_); rintro e w3 ⟨rfl, q, rfl⟩; have hsa := S2.out.drewN q; have hoa := O2.out.drewN q; have hla := L2.out.drewN q; (try simp only [World.drewN_drewN] at hsa hoa hla); have S3 := Lib.hid hsa; have O3 := Lib.hid hoa; have L3 := Lib.hid hla; clear hsa hoa hla)
              | (go_at_call 28; (with_reducible refine (CBA.out _).mono ?_); rintro e wz ⟨rfl, hb⟩; have HSZ := Lib.hid (S3.out.call hb); have HOZ := Lib.hid (O3.out.then hb HBW.out); have HLZ := Lib.hid (L3.out.call hb); obtain ⟨-, ⟨c0, f0⟩, ⟨c1, f1⟩⟩ := HLZ.out; clear hb))
            have hq := HLZ.out.put (.int .i64 3) (.int .i64 (-1))
            exact bodyPost_ret (v := .tuple #[.int .i64 (0), .agg #[.int .i64 3, .int .i64 (-1)]]) (by simp [results, Tryz.results24, go_sem, hq.2.1.1, hq.2.2.1]) rfl ⟨0, by rw [HP.out], by rw [HP.out]; exact fun h => absurd h three_ne, by rw [HP.out]; exact ScanAt.res HSZ.out HBL.out _ _, HOZ.out.res HBL.out _ _⟩
          · skip
            have e0 : ((H0 : Int) == 24) = false := by first | (simp; done) | (simp; omega)
            have e0n : (H0 == 24) = false := by first | (simp; done) | (simp; omega)
            have l0 : decide (23 < (H0 : Int)) = true := by first | (simp; done) | (simp; omega)
            have l0n : decide (23 < H0) = true := by first | (simp; done) | (simp; omega)
            have HP : Hid (clockP s false k = ⟨0, 3, -1, dgK s (dgK s (k) 2) 2⟩) := Lib.hid (by simp [clockP, ckEnd, F1.out, hH0, F2.out, hH1, hR3, g0, g1] <;> (intros; omega))
            have CBA : Hid (∀ w0, Calls Tryz.prog 28 #[.int .i64 3] w0 fun e w' => e = .returned (.agg #[.int .i64 3, .int .i64 (-1)]) ∧ Below w0.heap.size w0 w') := Lib.hid fun w0 => badR_any _ w0
            go_wp2_with (first
              | (go_at_call 51; (with_reducible refine (C3.out _ S2.out).mono ?_); rintro e w3 ⟨rfl, q, rfl⟩; have hsa := S2.out.drewN q; have hoa := O2.out.drewN q; have hla := L2.out.drewN q; (try simp only [World.drewN_drewN] at hsa hoa hla); have S3 := Lib.hid hsa; have O3 := Lib.hid hoa; have L3 := Lib.hid hla; clear hsa hoa hla)
              | (go_at_call 28; (with_reducible refine (CBA.out _).mono ?_); rintro e wz ⟨rfl, hb⟩; have HSZ := Lib.hid (S3.out.call hb); have HOZ := Lib.hid (O3.out.then hb HBW.out); have HLZ := Lib.hid (L3.out.call hb); obtain ⟨-, ⟨c0, f0⟩, ⟨c1, f1⟩⟩ := HLZ.out; clear hb))
            have hq := HLZ.out.put (.int .i64 3) (.int .i64 (-1))
            exact bodyPost_ret (v := .tuple #[.int .i64 (0), .agg #[.int .i64 3, .int .i64 (-1)]]) (by simp [results, Tryz.results24, go_sem, hq.2.1.1, hq.2.2.1]) rfl ⟨0, by rw [HP.out], by rw [HP.out]; exact fun h => absurd h three_ne, by rw [HP.out]; exact ScanAt.res HSZ.out HBL.out _ _, HOZ.out.res HBL.out _ _⟩
          · skip
            have e0 : ((H0 : Int) == 24) = false := by first | (simp; done) | (simp; omega)
            have e0n : (H0 == 24) = false := by first | (simp; done) | (simp; omega)
            have l0 : decide (23 < (H0 : Int)) = false := by first | (simp; done) | (simp; omega)
            have l0n : decide (23 < H0) = false := by first | (simp; done) | (simp; omega)
            have l1 : decide (59 < (H1 : Int)) = true := by first | (simp; done) | (simp; omega)
            have l1n : decide (59 < H1) = true := by first | (simp; done) | (simp; omega)
            have HP : Hid (clockP s false k = ⟨0, 3, -1, dgK s (dgK s (k) 2) 2⟩) := Lib.hid (by simp [clockP, ckEnd, F1.out, hH0, F2.out, hH1, hR3, g0, g1] <;> (intros; omega))
            have CBA : Hid (∀ w0, Calls Tryz.prog 28 #[.int .i64 3] w0 fun e w' => e = .returned (.agg #[.int .i64 3, .int .i64 (-1)]) ∧ Below w0.heap.size w0 w') := Lib.hid fun w0 => badR_any _ w0
            go_wp2_with (first
              | (go_at_call 51; (with_reducible refine (C3.out _ S2.out).mono ?_); rintro e w3 ⟨rfl, q, rfl⟩; have hsa := S2.out.drewN q; have hoa := O2.out.drewN q; have hla := L2.out.drewN q; (try simp only [World.drewN_drewN] at hsa hoa hla); have S3 := Lib.hid hsa; have O3 := Lib.hid hoa; have L3 := Lib.hid hla; clear hsa hoa hla)
              | (go_at_call 28; (with_reducible refine (CBA.out _).mono ?_); rintro e wz ⟨rfl, hb⟩; have HSZ := Lib.hid (S3.out.call hb); have HOZ := Lib.hid (O3.out.then hb HBW.out); have HLZ := Lib.hid (L3.out.call hb); obtain ⟨-, ⟨c0, f0⟩, ⟨c1, f1⟩⟩ := HLZ.out; clear hb))
            have hq := HLZ.out.put (.int .i64 3) (.int .i64 (-1))
            exact bodyPost_ret (v := .tuple #[.int .i64 (0), .agg #[.int .i64 3, .int .i64 (-1)]]) (by simp [results, Tryz.results24, go_sem, hq.2.1.1, hq.2.2.1]) rfl ⟨0, by rw [HP.out], by rw [HP.out]; exact fun h => absurd h three_ne, by rw [HP.out]; exact ScanAt.res HSZ.out HBL.out _ _, HOZ.out.res HBL.out _ _⟩
          · skip
            have e0 : ((H0 : Int) == 24) = false := by first | (simp; done) | (simp; omega)
            have e0n : (H0 == 24) = false := by first | (simp; done) | (simp; omega)
            have l0 : decide (23 < (H0 : Int)) = false := by first | (simp; done) | (simp; omega)
            have l0n : decide (23 < H0) = false := by first | (simp; done) | (simp; omega)
            have l1 : decide (59 < (H1 : Int)) = false := by first | (simp; done) | (simp; omega)
            have l1n : decide (59 < H1) = false := by first | (simp; done) | (simp; omega)
            have HP : Hid (clockP s false k = ⟨((H0 : Int) * 60 + (H1 : Int)) * 60 + 0, 0, -1, dgK s (dgK s (k) 2) 2⟩) := Lib.hid (by simp [clockP, ckEnd, F1.out, hH0, F2.out, hH1, hR3, g0, g1] <;> (intros; omega))
            have CFI : Hid (∀ w0, Calls Tryz.prog 29 #[] w0 fun e w' => e = .returned (.agg #[.int .i64 0, .int .i64 (-1)]) ∧ Below w0.heap.size w0 w') := Lib.hid fineR_any
            go_wp2_with (first
              | (go_at_call 51; (with_reducible refine (C3.out _ S2.out).mono ?_); rintro e w3 ⟨rfl, q, rfl⟩; have hsa := S2.out.drewN q; have hoa := O2.out.drewN q; have hla := L2.out.drewN q; (try simp only [World.drewN_drewN] at hsa hoa hla); have S3 := Lib.hid hsa; have O3 := Lib.hid hoa; have L3 := Lib.hid hla; clear hsa hoa hla)
              | (go_at_call 29; (with_reducible refine (CFI.out _).mono ?_); rintro e wz ⟨rfl, hb⟩; have HSZ := Lib.hid (S3.out.call hb); have HOZ := Lib.hid (O3.out.then hb HBW.out); have HLZ := Lib.hid (L3.out.call hb); obtain ⟨-, ⟨c0, f0⟩, ⟨c1, f1⟩⟩ := HLZ.out; clear hb))
            have hq := HLZ.out.put (.int .i64 0) (.int .i64 (-1))
            exact bodyPost_ret (v := .tuple #[.int .i64 ((H0 : Int) * 3600 + (H1 : Int) * 60 + 0), .agg #[.int .i64 0, .int .i64 (-1)]]) (by simp [results, Tryz.results24, go_sem, hq.2.1.1, hq.2.2.1] <;> omega) rfl ⟨(H0 : Int) * 3600 + (H1 : Int) * 60 + 0, by rw [HP.out], by rw [HP.out]; exact fun _ => by first | rfl | (dsimp only; omega), by rw [HP.out]; exact ScanAt.res HSZ.out HBL.out _ _, HOZ.out.res HBL.out _ _⟩
        · have r3b : decide (0 < (R3 : Int)) = true := by simp; omega
          have r3c : decide (0 < R3) = true := by simp; omega
          have r3d : (run_ s (dgK s (dgK s (k) 2) 2) == 0) = false := by rw [hR3]; simpa using r3
          go_wp2_with (first
            | (go_at_call 51; (with_reducible refine (C3.out _ S2.out).mono ?_); rintro e w3 ⟨rfl, q, rfl⟩; have hsa := S2.out.drewN q; have hoa := O2.out.drewN q; have hla := L2.out.drewN q; (try simp only [World.drewN_drewN] at hsa hoa hla); have S3 := Lib.hid hsa; have O3 := Lib.hid hoa; have L3 := Lib.hid hla; clear hsa hoa hla))
          rcases bool_or (dgB s (dgK s (dgK s (k) 2) 2) 2) with h4 | h4
          · have C4 : Hid (∀ w0, ScanAt b s ((dgK s (dgK s (k) 2) 2 : Nat) : Int) w0 → Calls Tryz.prog 49 #[.pointer (some ⟨b, 0, none⟩), .int .i64 2] w0 fun e w' => e = .returned (.tuple #[.int .i64 ((dgN s (dgK s (dgK s (k) 2) 2) 2 : Nat) : Int), .bool false]) ∧ ScanAt b s ((dgK s (dgK s (dgK s (k) 2) 2) 2 : Nat) : Int) w' ∧ Only b w0 w') := Lib.hid fun w0 h => by
                have q := take_any b s (dgK s (dgK s (k) 2) 2) 2 2 rfl w0 h (dgK_le (dgK_le hk)) hs (by omega)
                rw [h4] at q
                exact q
            have hx4 := dgN_lt s (dgK s (dgK s (k) 2) 2) 2
            have F4 := Lib.hid h4; clear h4
            have HP : Hid (clockP s false k = ⟨0, 5, ((dgK s (dgK s (dgK s (k) 2) 2) 2 : Nat) : Int), dgK s (dgK s (dgK s (k) 2) 2) 2⟩) := Lib.hid (by simp [clockP, badC, F1.out, F2.out, r3d, F4.out])
            have CFO : Hid (∀ w0, ScanAt b s ((dgK s (dgK s (dgK s (k) 2) 2) 2 : Nat) : Int) w0 → Calls Tryz.prog 26 #[.pointer (some ⟨b, 0, none⟩)] w0 fun e w' => e = .returned (.agg #[.int .i64 5, .int .i64 ((dgK s (dgK s (dgK s (k) 2) 2) 2 : Nat) : Int)]) ∧ Below w0.heap.size w0 w') := Lib.hid fun w0 h => form_any b s (dgK s (dgK s (dgK s (k) 2) 2) 2) w0 h
            go_wp2_with (first
              | (go_at_call 49; (with_reducible refine (C4.out _ S3.out).mono ?_); rintro e w4 ⟨rfl, hS, hO⟩; have S4 := Lib.hid hS; have O4 := Lib.hid (O3.out.trans hO); have L4 := Lib.hid (L3.out.only hO (by have := HBL.out; omega)); obtain ⟨-, ⟨c0, f0⟩, ⟨c1, f1⟩⟩ := L4.out; obtain ⟨-, -, k1, kf⟩ := hS; clear hO)
              | (go_at_call 26; (with_reducible refine (CFO.out _ S4.out).mono ?_); rintro e wz ⟨rfl, hb⟩; have HSZ := Lib.hid (S4.out.call hb); have HOZ := Lib.hid (O4.out.then hb HBW.out); have HLZ := Lib.hid (L4.out.call hb); obtain ⟨-, ⟨c0, f0⟩, ⟨c1, f1⟩⟩ := HLZ.out; clear hb))
            have hq := HLZ.out.put (.int .i64 5) (.int .i64 (((dgK s (dgK s (dgK s (k) 2) 2) 2 : Nat) : Int)))
            exact bodyPost_ret (v := .tuple #[.int .i64 (0), .agg #[.int .i64 5, .int .i64 (((dgK s (dgK s (dgK s (k) 2) 2) 2 : Nat) : Int))]]) (by simp [results, Tryz.results24, go_sem, hq.2.1.1, hq.2.2.1]) rfl ⟨0, by rw [HP.out], by rw [HP.out]; exact fun h => absurd h five_ne, by rw [HP.out]; exact ScanAt.res HSZ.out HBL.out _ _, HOZ.out.res HBL.out _ _⟩
          · have C4 : Hid (∀ w0, ScanAt b s ((dgK s (dgK s (k) 2) 2 : Nat) : Int) w0 → Calls Tryz.prog 49 #[.pointer (some ⟨b, 0, none⟩), .int .i64 2] w0 fun e w' => e = .returned (.tuple #[.int .i64 ((dgN s (dgK s (dgK s (k) 2) 2) 2 : Nat) : Int), .bool true]) ∧ ScanAt b s ((dgK s (dgK s (dgK s (k) 2) 2) 2 : Nat) : Int) w' ∧ Only b w0 w') := Lib.hid fun w0 h => by
                have q := take_any b s (dgK s (dgK s (k) 2) 2) 2 2 rfl w0 h (dgK_le (dgK_le hk)) hs (by omega)
                rw [h4] at q
                exact q
            have hx4 := dgN_lt s (dgK s (dgK s (k) 2) 2) 2
            have F4 := Lib.hid h4; clear h4
            obtain ⟨H2, hH2⟩ : ∃ H, dgN s (dgK s (dgK s (k) 2) 2) 2 = H := ⟨_, rfl⟩
            rw [hH2] at C4
            have hl2 : H2 < 100 := by rw [← hH2]; exact dgN_lt s _ 2
            rcases (show (H0 = 24 ∧ H1 = 0 ∧ H2 = 0) ∨ (H0 = 24 ∧ H1 ≠ 0) ∨ (H0 = 24 ∧ H1 = 0 ∧ H2 ≠ 0) ∨ (H0 ≠ 24 ∧ 23 < H0) ∨ (¬ 23 < H0 ∧ 59 < H1) ∨ (¬ 23 < H0 ∧ ¬ 59 < H1 ∧ 59 < H2) ∨ (¬ 23 < H0 ∧ ¬ 59 < H1 ∧ ¬ 59 < H2) by omega) with ⟨g0, g1, g2⟩ | ⟨g0, g1⟩ | ⟨g0, g1, g2⟩ | ⟨g0, g1⟩ | ⟨g0, g1⟩ | ⟨g0, g1, g2⟩ | ⟨g0, g1, g2⟩
            · skip
              have e0 : ((H0 : Int) == 24) = true := by first | (simp; done) | (simp; omega)
              have e0n : (H0 == 24) = true := by first | (simp; done) | (simp; omega)
              have e1 : ((H1 : Int) == 0) = true := by first | (simp; done) | (simp; omega)
              have e1n : (H1 == 0) = true := by first | (simp; done) | (simp; omega)
              have e2 : ((H2 : Int) == 0) = true := by first | (simp; done) | (simp; omega)
              have e2n : (H2 == 0) = true := by first | (simp; done) | (simp; omega)
              have HP : Hid (clockP s false k = ⟨86400, 0, -1, dgK s (dgK s (dgK s (k) 2) 2) 2⟩) := Lib.hid (by simp [clockP, ckEnd, F1.out, hH0, F2.out, hH1, r3d, F4.out, hH2, g0, g1, g2] <;> (intros; omega))
              have CFI : Hid (∀ w0, Calls Tryz.prog 29 #[] w0 fun e w' => e = .returned (.agg #[.int .i64 0, .int .i64 (-1)]) ∧ Below w0.heap.size w0 w') := Lib.hid fineR_any
              go_wp2_with (first
                | (go_at_call 49; (with_reducible refine (C4.out _ S3.out).mono ?_); rintro e w4 ⟨rfl, hS, hO⟩; have S4 := Lib.hid hS; have O4 := Lib.hid (O3.out.trans hO); have L4 := Lib.hid (L3.out.only hO (by have := HBL.out; omega)); obtain ⟨-, ⟨c0, f0⟩, ⟨c1, f1⟩⟩ := L4.out; obtain ⟨-, -, k1, kf⟩ := hS; clear hO)
                | (go_at_call 29; (with_reducible refine (CFI.out _).mono ?_); rintro e wz ⟨rfl, hb⟩; have HSZ := Lib.hid (S4.out.call hb); have HOZ := Lib.hid (O4.out.then hb HBW.out); have HLZ := Lib.hid (L4.out.call hb); obtain ⟨-, ⟨c0, f0⟩, ⟨c1, f1⟩⟩ := HLZ.out; clear hb))
              have hq := HLZ.out.put (.int .i64 0) (.int .i64 (-1))
              exact bodyPost_ret (v := .tuple #[.int .i64 (86400), .agg #[.int .i64 0, .int .i64 (-1)]]) (by simp [results, Tryz.results24, go_sem, hq.2.1.1, hq.2.2.1]) rfl ⟨86400, by rw [HP.out], by rw [HP.out]; exact fun _ => by first | rfl | (dsimp only; omega), by rw [HP.out]; exact ScanAt.res HSZ.out HBL.out _ _, HOZ.out.res HBL.out _ _⟩
            · skip
              have e0 : ((H0 : Int) == 24) = true := by first | (simp; done) | (simp; omega)
              have e0n : (H0 == 24) = true := by first | (simp; done) | (simp; omega)
              have e1 : ((H1 : Int) == 0) = false := by first | (simp; done) | (simp; omega)
              have e1n : (H1 == 0) = false := by first | (simp; done) | (simp; omega)
              have l0 : decide (23 < (H0 : Int)) = true := by first | (simp; done) | (simp; omega)
              have l0n : decide (23 < H0) = true := by first | (simp; done) | (simp; omega)
              have HP : Hid (clockP s false k = ⟨0, 3, -1, dgK s (dgK s (dgK s (k) 2) 2) 2⟩) := Lib.hid (by simp [clockP, ckEnd, F1.out, hH0, F2.out, hH1, r3d, F4.out, hH2, g0, g1] <;> (intros; omega))
              have CBA : Hid (∀ w0, Calls Tryz.prog 28 #[.int .i64 3] w0 fun e w' => e = .returned (.agg #[.int .i64 3, .int .i64 (-1)]) ∧ Below w0.heap.size w0 w') := Lib.hid fun w0 => badR_any _ w0
              go_wp2_with (first
                | (go_at_call 49; (with_reducible refine (C4.out _ S3.out).mono ?_); rintro e w4 ⟨rfl, hS, hO⟩; have S4 := Lib.hid hS; have O4 := Lib.hid (O3.out.trans hO); have L4 := Lib.hid (L3.out.only hO (by have := HBL.out; omega)); obtain ⟨-, ⟨c0, f0⟩, ⟨c1, f1⟩⟩ := L4.out; obtain ⟨-, -, k1, kf⟩ := hS; clear hO)
                | (go_at_call 28; (with_reducible refine (CBA.out _).mono ?_); rintro e wz ⟨rfl, hb⟩; have HSZ := Lib.hid (S4.out.call hb); have HOZ := Lib.hid (O4.out.then hb HBW.out); have HLZ := Lib.hid (L4.out.call hb); obtain ⟨-, ⟨c0, f0⟩, ⟨c1, f1⟩⟩ := HLZ.out; clear hb))
              have hq := HLZ.out.put (.int .i64 3) (.int .i64 (-1))
              exact bodyPost_ret (v := .tuple #[.int .i64 (0), .agg #[.int .i64 3, .int .i64 (-1)]]) (by simp [results, Tryz.results24, go_sem, hq.2.1.1, hq.2.2.1]) rfl ⟨0, by rw [HP.out], by rw [HP.out]; exact fun h => absurd h three_ne, by rw [HP.out]; exact ScanAt.res HSZ.out HBL.out _ _, HOZ.out.res HBL.out _ _⟩
            · skip
              have e0 : ((H0 : Int) == 24) = true := by first | (simp; done) | (simp; omega)
              have e0n : (H0 == 24) = true := by first | (simp; done) | (simp; omega)
              have e1 : ((H1 : Int) == 0) = true := by first | (simp; done) | (simp; omega)
              have e1n : (H1 == 0) = true := by first | (simp; done) | (simp; omega)
              have e2 : ((H2 : Int) == 0) = false := by first | (simp; done) | (simp; omega)
              have e2n : (H2 == 0) = false := by first | (simp; done) | (simp; omega)
              have l0 : decide (23 < (H0 : Int)) = true := by first | (simp; done) | (simp; omega)
              have l0n : decide (23 < H0) = true := by first | (simp; done) | (simp; omega)
              have HP : Hid (clockP s false k = ⟨0, 3, -1, dgK s (dgK s (dgK s (k) 2) 2) 2⟩) := Lib.hid (by simp [clockP, ckEnd, F1.out, hH0, F2.out, hH1, r3d, F4.out, hH2, g0, g1, g2] <;> (intros; omega))
              have CBA : Hid (∀ w0, Calls Tryz.prog 28 #[.int .i64 3] w0 fun e w' => e = .returned (.agg #[.int .i64 3, .int .i64 (-1)]) ∧ Below w0.heap.size w0 w') := Lib.hid fun w0 => badR_any _ w0
              go_wp2_with (first
                | (go_at_call 49; (with_reducible refine (C4.out _ S3.out).mono ?_); rintro e w4 ⟨rfl, hS, hO⟩; have S4 := Lib.hid hS; have O4 := Lib.hid (O3.out.trans hO); have L4 := Lib.hid (L3.out.only hO (by have := HBL.out; omega)); obtain ⟨-, ⟨c0, f0⟩, ⟨c1, f1⟩⟩ := L4.out; obtain ⟨-, -, k1, kf⟩ := hS; clear hO)
                | (go_at_call 28; (with_reducible refine (CBA.out _).mono ?_); rintro e wz ⟨rfl, hb⟩; have HSZ := Lib.hid (S4.out.call hb); have HOZ := Lib.hid (O4.out.then hb HBW.out); have HLZ := Lib.hid (L4.out.call hb); obtain ⟨-, ⟨c0, f0⟩, ⟨c1, f1⟩⟩ := HLZ.out; clear hb))
              have hq := HLZ.out.put (.int .i64 3) (.int .i64 (-1))
              exact bodyPost_ret (v := .tuple #[.int .i64 (0), .agg #[.int .i64 3, .int .i64 (-1)]]) (by simp [results, Tryz.results24, go_sem, hq.2.1.1, hq.2.2.1]) rfl ⟨0, by rw [HP.out], by rw [HP.out]; exact fun h => absurd h three_ne, by rw [HP.out]; exact ScanAt.res HSZ.out HBL.out _ _, HOZ.out.res HBL.out _ _⟩
            · skip
              have e0 : ((H0 : Int) == 24) = false := by first | (simp; done) | (simp; omega)
              have e0n : (H0 == 24) = false := by first | (simp; done) | (simp; omega)
              have l0 : decide (23 < (H0 : Int)) = true := by first | (simp; done) | (simp; omega)
              have l0n : decide (23 < H0) = true := by first | (simp; done) | (simp; omega)
              have HP : Hid (clockP s false k = ⟨0, 3, -1, dgK s (dgK s (dgK s (k) 2) 2) 2⟩) := Lib.hid (by simp [clockP, ckEnd, F1.out, hH0, F2.out, hH1, r3d, F4.out, hH2, g0, g1] <;> (intros; omega))
              have CBA : Hid (∀ w0, Calls Tryz.prog 28 #[.int .i64 3] w0 fun e w' => e = .returned (.agg #[.int .i64 3, .int .i64 (-1)]) ∧ Below w0.heap.size w0 w') := Lib.hid fun w0 => badR_any _ w0
              go_wp2_with (first
                | (go_at_call 49; (with_reducible refine (C4.out _ S3.out).mono ?_); rintro e w4 ⟨rfl, hS, hO⟩; have S4 := Lib.hid hS; have O4 := Lib.hid (O3.out.trans hO); have L4 := Lib.hid (L3.out.only hO (by have := HBL.out; omega)); obtain ⟨-, ⟨c0, f0⟩, ⟨c1, f1⟩⟩ := L4.out; obtain ⟨-, -, k1, kf⟩ := hS; clear hO)
                | (go_at_call 28; (with_reducible refine (CBA.out _).mono ?_); rintro e wz ⟨rfl, hb⟩; have HSZ := Lib.hid (S4.out.call hb); have HOZ := Lib.hid (O4.out.then hb HBW.out); have HLZ := Lib.hid (L4.out.call hb); obtain ⟨-, ⟨c0, f0⟩, ⟨c1, f1⟩⟩ := HLZ.out; clear hb))
              have hq := HLZ.out.put (.int .i64 3) (.int .i64 (-1))
              exact bodyPost_ret (v := .tuple #[.int .i64 (0), .agg #[.int .i64 3, .int .i64 (-1)]]) (by simp [results, Tryz.results24, go_sem, hq.2.1.1, hq.2.2.1]) rfl ⟨0, by rw [HP.out], by rw [HP.out]; exact fun h => absurd h three_ne, by rw [HP.out]; exact ScanAt.res HSZ.out HBL.out _ _, HOZ.out.res HBL.out _ _⟩
            · skip
              have e0 : ((H0 : Int) == 24) = false := by first | (simp; done) | (simp; omega)
              have e0n : (H0 == 24) = false := by first | (simp; done) | (simp; omega)
              have l0 : decide (23 < (H0 : Int)) = false := by first | (simp; done) | (simp; omega)
              have l0n : decide (23 < H0) = false := by first | (simp; done) | (simp; omega)
              have l1 : decide (59 < (H1 : Int)) = true := by first | (simp; done) | (simp; omega)
              have l1n : decide (59 < H1) = true := by first | (simp; done) | (simp; omega)
              have HP : Hid (clockP s false k = ⟨0, 3, -1, dgK s (dgK s (dgK s (k) 2) 2) 2⟩) := Lib.hid (by simp [clockP, ckEnd, F1.out, hH0, F2.out, hH1, r3d, F4.out, hH2, g0, g1] <;> (intros; omega))
              have CBA : Hid (∀ w0, Calls Tryz.prog 28 #[.int .i64 3] w0 fun e w' => e = .returned (.agg #[.int .i64 3, .int .i64 (-1)]) ∧ Below w0.heap.size w0 w') := Lib.hid fun w0 => badR_any _ w0
              go_wp2_with (first
                | (go_at_call 49; (with_reducible refine (C4.out _ S3.out).mono ?_); rintro e w4 ⟨rfl, hS, hO⟩; have S4 := Lib.hid hS; have O4 := Lib.hid (O3.out.trans hO); have L4 := Lib.hid (L3.out.only hO (by have := HBL.out; omega)); obtain ⟨-, ⟨c0, f0⟩, ⟨c1, f1⟩⟩ := L4.out; obtain ⟨-, -, k1, kf⟩ := hS; clear hO)
                | (go_at_call 28; (with_reducible refine (CBA.out _).mono ?_); rintro e wz ⟨rfl, hb⟩; have HSZ := Lib.hid (S4.out.call hb); have HOZ := Lib.hid (O4.out.then hb HBW.out); have HLZ := Lib.hid (L4.out.call hb); obtain ⟨-, ⟨c0, f0⟩, ⟨c1, f1⟩⟩ := HLZ.out; clear hb))
              have hq := HLZ.out.put (.int .i64 3) (.int .i64 (-1))
              exact bodyPost_ret (v := .tuple #[.int .i64 (0), .agg #[.int .i64 3, .int .i64 (-1)]]) (by simp [results, Tryz.results24, go_sem, hq.2.1.1, hq.2.2.1]) rfl ⟨0, by rw [HP.out], by rw [HP.out]; exact fun h => absurd h three_ne, by rw [HP.out]; exact ScanAt.res HSZ.out HBL.out _ _, HOZ.out.res HBL.out _ _⟩
            · skip
              have e0 : ((H0 : Int) == 24) = false := by first | (simp; done) | (simp; omega)
              have e0n : (H0 == 24) = false := by first | (simp; done) | (simp; omega)
              have l0 : decide (23 < (H0 : Int)) = false := by first | (simp; done) | (simp; omega)
              have l0n : decide (23 < H0) = false := by first | (simp; done) | (simp; omega)
              have l1 : decide (59 < (H1 : Int)) = false := by first | (simp; done) | (simp; omega)
              have l1n : decide (59 < H1) = false := by first | (simp; done) | (simp; omega)
              have l2 : decide (59 < (H2 : Int)) = true := by first | (simp; done) | (simp; omega)
              have l2n : decide (59 < H2) = true := by first | (simp; done) | (simp; omega)
              have HP : Hid (clockP s false k = ⟨0, 3, -1, dgK s (dgK s (dgK s (k) 2) 2) 2⟩) := Lib.hid (by simp [clockP, ckEnd, F1.out, hH0, F2.out, hH1, r3d, F4.out, hH2, g0, g1, g2] <;> (intros; omega))
              have CBA : Hid (∀ w0, Calls Tryz.prog 28 #[.int .i64 3] w0 fun e w' => e = .returned (.agg #[.int .i64 3, .int .i64 (-1)]) ∧ Below w0.heap.size w0 w') := Lib.hid fun w0 => badR_any _ w0
              go_wp2_with (first
                | (go_at_call 49; (with_reducible refine (C4.out _ S3.out).mono ?_); rintro e w4 ⟨rfl, hS, hO⟩; have S4 := Lib.hid hS; have O4 := Lib.hid (O3.out.trans hO); have L4 := Lib.hid (L3.out.only hO (by have := HBL.out; omega)); obtain ⟨-, ⟨c0, f0⟩, ⟨c1, f1⟩⟩ := L4.out; obtain ⟨-, -, k1, kf⟩ := hS; clear hO)
                | (go_at_call 28; (with_reducible refine (CBA.out _).mono ?_); rintro e wz ⟨rfl, hb⟩; have HSZ := Lib.hid (S4.out.call hb); have HOZ := Lib.hid (O4.out.then hb HBW.out); have HLZ := Lib.hid (L4.out.call hb); obtain ⟨-, ⟨c0, f0⟩, ⟨c1, f1⟩⟩ := HLZ.out; clear hb))
              have hq := HLZ.out.put (.int .i64 3) (.int .i64 (-1))
              exact bodyPost_ret (v := .tuple #[.int .i64 (0), .agg #[.int .i64 3, .int .i64 (-1)]]) (by simp [results, Tryz.results24, go_sem, hq.2.1.1, hq.2.2.1]) rfl ⟨0, by rw [HP.out], by rw [HP.out]; exact fun h => absurd h three_ne, by rw [HP.out]; exact ScanAt.res HSZ.out HBL.out _ _, HOZ.out.res HBL.out _ _⟩
            · skip
              have e0 : ((H0 : Int) == 24) = false := by first | (simp; done) | (simp; omega)
              have e0n : (H0 == 24) = false := by first | (simp; done) | (simp; omega)
              have l0 : decide (23 < (H0 : Int)) = false := by first | (simp; done) | (simp; omega)
              have l0n : decide (23 < H0) = false := by first | (simp; done) | (simp; omega)
              have l1 : decide (59 < (H1 : Int)) = false := by first | (simp; done) | (simp; omega)
              have l1n : decide (59 < H1) = false := by first | (simp; done) | (simp; omega)
              have l2 : decide (59 < (H2 : Int)) = false := by first | (simp; done) | (simp; omega)
              have l2n : decide (59 < H2) = false := by first | (simp; done) | (simp; omega)
              have HP : Hid (clockP s false k = ⟨((H0 : Int) * 60 + (H1 : Int)) * 60 + (H2 : Int), 0, -1, dgK s (dgK s (dgK s (k) 2) 2) 2⟩) := Lib.hid (by simp [clockP, ckEnd, F1.out, hH0, F2.out, hH1, r3d, F4.out, hH2, g0, g1, g2] <;> (intros; omega))
              have CFI : Hid (∀ w0, Calls Tryz.prog 29 #[] w0 fun e w' => e = .returned (.agg #[.int .i64 0, .int .i64 (-1)]) ∧ Below w0.heap.size w0 w') := Lib.hid fineR_any
              go_wp2_with (first
                | (go_at_call 49; (with_reducible refine (C4.out _ S3.out).mono ?_); rintro e w4 ⟨rfl, hS, hO⟩; have S4 := Lib.hid hS; have O4 := Lib.hid (O3.out.trans hO); have L4 := Lib.hid (L3.out.only hO (by have := HBL.out; omega)); obtain ⟨-, ⟨c0, f0⟩, ⟨c1, f1⟩⟩ := L4.out; obtain ⟨-, -, k1, kf⟩ := hS; clear hO)
                | (go_at_call 29; (with_reducible refine (CFI.out _).mono ?_); rintro e wz ⟨rfl, hb⟩; have HSZ := Lib.hid (S4.out.call hb); have HOZ := Lib.hid (O4.out.then hb HBW.out); have HLZ := Lib.hid (L4.out.call hb); obtain ⟨-, ⟨c0, f0⟩, ⟨c1, f1⟩⟩ := HLZ.out; clear hb))
              have hq := HLZ.out.put (.int .i64 0) (.int .i64 (-1))
              exact bodyPost_ret (v := .tuple #[.int .i64 ((H0 : Int) * 3600 + (H1 : Int) * 60 + (H2 : Int)), .agg #[.int .i64 0, .int .i64 (-1)]]) (by simp [results, Tryz.results24, go_sem, hq.2.1.1, hq.2.2.1] <;> omega) rfl ⟨(H0 : Int) * 3600 + (H1 : Int) * 60 + (H2 : Int), by rw [HP.out], by rw [HP.out]; exact fun _ => by first | rfl | (dsimp only; omega), by rw [HP.out]; exact ScanAt.res HSZ.out HBL.out _ _, HOZ.out.res HBL.out _ _⟩
    · skip
      go_wp2_with (first
        | (go_at_call 49; (with_reducible refine (C1.out _ S0.out).mono ?_); rintro e w1 ⟨rfl, hS, hO⟩; have S1 := Lib.hid hS; have O1 := Lib.hid (O0.out.trans hO); have L1 := Lib.hid (L0.out.only hO (by have := HBL.out; omega)); obtain ⟨-, ⟨c0, f0⟩, ⟨c1, f1⟩⟩ := L1.out; obtain ⟨-, -, k1, kf⟩ := hS; clear hO))
      rcases bool_or (isB s (dgK s (k) 2) 58) with h5 | h5
      · have C5 : Hid (∀ w0, ScanAt b s ((dgK s (k) 2 : Nat) : Int) w0 → Calls Tryz.prog 23 #[.pointer (some ⟨b, 0, none⟩), .int .u8 58] w0 fun e w' => e = .returned (.bool false) ∧ ScanAt b s ((dgK s (k) 2 : Nat) : Int) w' ∧ Only b w0 w') := Lib.hid fun w0 h => by
            have q := ris_any b s (dgK s (k) 2) 58 w0 h hs
            rw [h5, isK_no h5] at q
            exact q
        have F5 := Lib.hid h5; clear h5
        have HP : Hid (clockP s true k = ⟨0, 5, ((dgK s (k) 2 : Nat) : Int), dgK s (k) 2⟩) := Lib.hid (by simp [clockP, badC, F1.out, F5.out])
        have CFO : Hid (∀ w0, ScanAt b s ((dgK s (k) 2 : Nat) : Int) w0 → Calls Tryz.prog 26 #[.pointer (some ⟨b, 0, none⟩)] w0 fun e w' => e = .returned (.agg #[.int .i64 5, .int .i64 ((dgK s (k) 2 : Nat) : Int)]) ∧ Below w0.heap.size w0 w') := Lib.hid fun w0 h => form_any b s (dgK s (k) 2) w0 h
        go_wp2_with (first
          | (go_at_call 23; (with_reducible refine (C5.out _ S1.out).mono ?_); rintro e w5 ⟨rfl, hS, hO⟩; have S5 := Lib.hid hS; have O5 := Lib.hid (O1.out.trans hO); have L5 := Lib.hid (L1.out.only hO (by have := HBL.out; omega)); obtain ⟨-, ⟨c0, f0⟩, ⟨c1, f1⟩⟩ := L5.out; obtain ⟨-, -, k1, kf⟩ := hS; clear hO)
          | (go_at_call 26; (with_reducible refine (CFO.out _ S5.out).mono ?_); rintro e wz ⟨rfl, hb⟩; have HSZ := Lib.hid (S5.out.call hb); have HOZ := Lib.hid (O5.out.then hb HBW.out); have HLZ := Lib.hid (L5.out.call hb); obtain ⟨-, ⟨c0, f0⟩, ⟨c1, f1⟩⟩ := HLZ.out; clear hb))
        have hq := HLZ.out.put (.int .i64 5) (.int .i64 (((dgK s (k) 2 : Nat) : Int)))
        exact bodyPost_ret (v := .tuple #[.int .i64 (0), .agg #[.int .i64 5, .int .i64 (((dgK s (k) 2 : Nat) : Int))]]) (by simp [results, Tryz.results24, go_sem, hq.2.1.1, hq.2.2.1]) rfl ⟨0, by rw [HP.out], by rw [HP.out]; exact fun h => absurd h five_ne, by rw [HP.out]; exact ScanAt.res HSZ.out HBL.out _ _, HOZ.out.res HBL.out _ _⟩
      · have C5 : Hid (∀ w0, ScanAt b s ((dgK s (k) 2 : Nat) : Int) w0 → Calls Tryz.prog 23 #[.pointer (some ⟨b, 0, none⟩), .int .u8 58] w0 fun e w' => e = .returned (.bool true) ∧ ScanAt b s ((dgK s (k) 2 + 1 : Nat) : Int) w' ∧ Only b w0 w') := Lib.hid fun w0 h => by
            have q := ris_any b s (dgK s (k) 2) 58 w0 h hs
            rw [h5, isK_yes h5] at q
            exact q
        have F5 := Lib.hid h5; clear h5
        go_wp2_with (first
          | (go_at_call 23; (with_reducible refine (C5.out _ S1.out).mono ?_); rintro e w5 ⟨rfl, hS, hO⟩; have S5 := Lib.hid hS; have O5 := Lib.hid (O1.out.trans hO); have L5 := Lib.hid (L1.out.only hO (by have := HBL.out; omega)); obtain ⟨-, ⟨c0, f0⟩, ⟨c1, f1⟩⟩ := L5.out; obtain ⟨-, -, k1, kf⟩ := hS; clear hO))
        rcases bool_or (dgB s (dgK s (k) 2 + 1) 2) with h6 | h6
        · have C6 : Hid (∀ w0, ScanAt b s ((dgK s (k) 2 + 1 : Nat) : Int) w0 → Calls Tryz.prog 49 #[.pointer (some ⟨b, 0, none⟩), .int .i64 2] w0 fun e w' => e = .returned (.tuple #[.int .i64 ((dgN s (dgK s (k) 2 + 1) 2 : Nat) : Int), .bool false]) ∧ ScanAt b s ((dgK s (dgK s (k) 2 + 1) 2 : Nat) : Int) w' ∧ Only b w0 w') := Lib.hid fun w0 h => by
              have q := take_any b s (dgK s (k) 2 + 1) 2 2 rfl w0 h (isB_lt F5.out) hs (by omega)
              rw [h6] at q
              exact q
          have hx6 := dgN_lt s (dgK s (k) 2 + 1) 2
          have F6 := Lib.hid h6; clear h6
          have HP : Hid (clockP s true k = ⟨0, 5, ((dgK s (dgK s (k) 2 + 1) 2 : Nat) : Int), dgK s (dgK s (k) 2 + 1) 2⟩) := Lib.hid (by simp [clockP, badC, F1.out, F5.out, F6.out])
          have CFO : Hid (∀ w0, ScanAt b s ((dgK s (dgK s (k) 2 + 1) 2 : Nat) : Int) w0 → Calls Tryz.prog 26 #[.pointer (some ⟨b, 0, none⟩)] w0 fun e w' => e = .returned (.agg #[.int .i64 5, .int .i64 ((dgK s (dgK s (k) 2 + 1) 2 : Nat) : Int)]) ∧ Below w0.heap.size w0 w') := Lib.hid fun w0 h => form_any b s (dgK s (dgK s (k) 2 + 1) 2) w0 h
          go_wp2_with (first
            | (go_at_call 49; (with_reducible refine (C6.out _ S5.out).mono ?_); rintro e w6 ⟨rfl, hS, hO⟩; have S6 := Lib.hid hS; have O6 := Lib.hid (O5.out.trans hO); have L6 := Lib.hid (L5.out.only hO (by have := HBL.out; omega)); obtain ⟨-, ⟨c0, f0⟩, ⟨c1, f1⟩⟩ := L6.out; obtain ⟨-, -, k1, kf⟩ := hS; clear hO)
            | (go_at_call 26; (with_reducible refine (CFO.out _ S6.out).mono ?_); rintro e wz ⟨rfl, hb⟩; have HSZ := Lib.hid (S6.out.call hb); have HOZ := Lib.hid (O6.out.then hb HBW.out); have HLZ := Lib.hid (L6.out.call hb); obtain ⟨-, ⟨c0, f0⟩, ⟨c1, f1⟩⟩ := HLZ.out; clear hb))
          have hq := HLZ.out.put (.int .i64 5) (.int .i64 (((dgK s (dgK s (k) 2 + 1) 2 : Nat) : Int)))
          exact bodyPost_ret (v := .tuple #[.int .i64 (0), .agg #[.int .i64 5, .int .i64 (((dgK s (dgK s (k) 2 + 1) 2 : Nat) : Int))]]) (by simp [results, Tryz.results24, go_sem, hq.2.1.1, hq.2.2.1]) rfl ⟨0, by rw [HP.out], by rw [HP.out]; exact fun h => absurd h five_ne, by rw [HP.out]; exact ScanAt.res HSZ.out HBL.out _ _, HOZ.out.res HBL.out _ _⟩
        · have C6 : Hid (∀ w0, ScanAt b s ((dgK s (k) 2 + 1 : Nat) : Int) w0 → Calls Tryz.prog 49 #[.pointer (some ⟨b, 0, none⟩), .int .i64 2] w0 fun e w' => e = .returned (.tuple #[.int .i64 ((dgN s (dgK s (k) 2 + 1) 2 : Nat) : Int), .bool true]) ∧ ScanAt b s ((dgK s (dgK s (k) 2 + 1) 2 : Nat) : Int) w' ∧ Only b w0 w') := Lib.hid fun w0 h => by
              have q := take_any b s (dgK s (k) 2 + 1) 2 2 rfl w0 h (isB_lt F5.out) hs (by omega)
              rw [h6] at q
              exact q
          have hx6 := dgN_lt s (dgK s (k) 2 + 1) 2
          have F6 := Lib.hid h6; clear h6
          obtain ⟨H1, hH1⟩ : ∃ H, dgN s (dgK s (k) 2 + 1) 2 = H := ⟨_, rfl⟩
          rw [hH1] at C6
          have hl1 : H1 < 100 := by rw [← hH1]; exact dgN_lt s _ 2
          go_wp2_with (first
            | (go_at_call 49; (with_reducible refine (C6.out _ S5.out).mono ?_); rintro e w6 ⟨rfl, hS, hO⟩; have S6 := Lib.hid hS; have O6 := Lib.hid (O5.out.trans hO); have L6 := Lib.hid (L5.out.only hO (by have := HBL.out; omega)); obtain ⟨-, ⟨c0, f0⟩, ⟨c1, f1⟩⟩ := L6.out; obtain ⟨-, -, k1, kf⟩ := hS; clear hO))
          rcases bool_or (isB s (dgK s (dgK s (k) 2 + 1) 2) 58) with h7 | h7
          · have C7 : Hid (∀ w0, ScanAt b s ((dgK s (dgK s (k) 2 + 1) 2 : Nat) : Int) w0 → Calls Tryz.prog 23 #[.pointer (some ⟨b, 0, none⟩), .int .u8 58] w0 fun e w' => e = .returned (.bool false) ∧ ScanAt b s ((dgK s (dgK s (k) 2 + 1) 2 : Nat) : Int) w' ∧ Only b w0 w') := Lib.hid fun w0 h => by
                have q := ris_any b s (dgK s (dgK s (k) 2 + 1) 2) 58 w0 h hs
                rw [h7, isK_no h7] at q
                exact q
            have F7 := Lib.hid h7; clear h7
            rcases (show (H0 = 24 ∧ H1 = 0) ∨ (H0 = 24 ∧ H1 ≠ 0) ∨ (H0 ≠ 24 ∧ 23 < H0) ∨ (¬ 23 < H0 ∧ 59 < H1) ∨ (¬ 23 < H0 ∧ ¬ 59 < H1) by omega) with ⟨g0, g1⟩ | ⟨g0, g1⟩ | ⟨g0, g1⟩ | ⟨g0, g1⟩ | ⟨g0, g1⟩
            · skip
              have e0 : ((H0 : Int) == 24) = true := by first | (simp; done) | (simp; omega)
              have e0n : (H0 == 24) = true := by first | (simp; done) | (simp; omega)
              have e1 : ((H1 : Int) == 0) = true := by first | (simp; done) | (simp; omega)
              have e1n : (H1 == 0) = true := by first | (simp; done) | (simp; omega)
              have HP : Hid (clockP s true k = ⟨86400, 0, -1, dgK s (dgK s (k) 2 + 1) 2⟩) := Lib.hid (by simp [clockP, ckEnd, F1.out, hH0, F5.out, F6.out, hH1, F7.out, g0, g1] <;> (intros; omega))
              have CFI : Hid (∀ w0, Calls Tryz.prog 29 #[] w0 fun e w' => e = .returned (.agg #[.int .i64 0, .int .i64 (-1)]) ∧ Below w0.heap.size w0 w') := Lib.hid fineR_any
              go_wp2_with (first
                | (go_at_call 23; (with_reducible refine (C7.out _ S6.out).mono ?_); rintro e w7 ⟨rfl, hS, hO⟩; have S7 := Lib.hid hS; have O7 := Lib.hid (O6.out.trans hO); have L7 := Lib.hid (L6.out.only hO (by have := HBL.out; omega)); obtain ⟨-, ⟨c0, f0⟩, ⟨c1, f1⟩⟩ := L7.out; obtain ⟨-, -, k1, kf⟩ := hS; clear hO)
                | (go_at_call 29; (with_reducible refine (CFI.out _).mono ?_); rintro e wz ⟨rfl, hb⟩; have HSZ := Lib.hid (S7.out.call hb); have HOZ := Lib.hid (O7.out.then hb HBW.out); have HLZ := Lib.hid (L7.out.call hb); obtain ⟨-, ⟨c0, f0⟩, ⟨c1, f1⟩⟩ := HLZ.out; clear hb))
              have hq := HLZ.out.put (.int .i64 0) (.int .i64 (-1))
              exact bodyPost_ret (v := .tuple #[.int .i64 (86400), .agg #[.int .i64 0, .int .i64 (-1)]]) (by simp [results, Tryz.results24, go_sem, hq.2.1.1, hq.2.2.1]) rfl ⟨86400, by rw [HP.out], by rw [HP.out]; exact fun _ => by first | rfl | (dsimp only; omega), by rw [HP.out]; exact ScanAt.res HSZ.out HBL.out _ _, HOZ.out.res HBL.out _ _⟩
            · skip
              have e0 : ((H0 : Int) == 24) = true := by first | (simp; done) | (simp; omega)
              have e0n : (H0 == 24) = true := by first | (simp; done) | (simp; omega)
              have e1 : ((H1 : Int) == 0) = false := by first | (simp; done) | (simp; omega)
              have e1n : (H1 == 0) = false := by first | (simp; done) | (simp; omega)
              have l0 : decide (23 < (H0 : Int)) = true := by first | (simp; done) | (simp; omega)
              have l0n : decide (23 < H0) = true := by first | (simp; done) | (simp; omega)
              have HP : Hid (clockP s true k = ⟨0, 3, -1, dgK s (dgK s (k) 2 + 1) 2⟩) := Lib.hid (by simp [clockP, ckEnd, F1.out, hH0, F5.out, F6.out, hH1, F7.out, g0, g1] <;> (intros; omega))
              have CBA : Hid (∀ w0, Calls Tryz.prog 28 #[.int .i64 3] w0 fun e w' => e = .returned (.agg #[.int .i64 3, .int .i64 (-1)]) ∧ Below w0.heap.size w0 w') := Lib.hid fun w0 => badR_any _ w0
              go_wp2_with (first
                | (go_at_call 23; (with_reducible refine (C7.out _ S6.out).mono ?_); rintro e w7 ⟨rfl, hS, hO⟩; have S7 := Lib.hid hS; have O7 := Lib.hid (O6.out.trans hO); have L7 := Lib.hid (L6.out.only hO (by have := HBL.out; omega)); obtain ⟨-, ⟨c0, f0⟩, ⟨c1, f1⟩⟩ := L7.out; obtain ⟨-, -, k1, kf⟩ := hS; clear hO)
                | (go_at_call 28; (with_reducible refine (CBA.out _).mono ?_); rintro e wz ⟨rfl, hb⟩; have HSZ := Lib.hid (S7.out.call hb); have HOZ := Lib.hid (O7.out.then hb HBW.out); have HLZ := Lib.hid (L7.out.call hb); obtain ⟨-, ⟨c0, f0⟩, ⟨c1, f1⟩⟩ := HLZ.out; clear hb))
              have hq := HLZ.out.put (.int .i64 3) (.int .i64 (-1))
              exact bodyPost_ret (v := .tuple #[.int .i64 (0), .agg #[.int .i64 3, .int .i64 (-1)]]) (by simp [results, Tryz.results24, go_sem, hq.2.1.1, hq.2.2.1]) rfl ⟨0, by rw [HP.out], by rw [HP.out]; exact fun h => absurd h three_ne, by rw [HP.out]; exact ScanAt.res HSZ.out HBL.out _ _, HOZ.out.res HBL.out _ _⟩
            · skip
              have e0 : ((H0 : Int) == 24) = false := by first | (simp; done) | (simp; omega)
              have e0n : (H0 == 24) = false := by first | (simp; done) | (simp; omega)
              have l0 : decide (23 < (H0 : Int)) = true := by first | (simp; done) | (simp; omega)
              have l0n : decide (23 < H0) = true := by first | (simp; done) | (simp; omega)
              have HP : Hid (clockP s true k = ⟨0, 3, -1, dgK s (dgK s (k) 2 + 1) 2⟩) := Lib.hid (by simp [clockP, ckEnd, F1.out, hH0, F5.out, F6.out, hH1, F7.out, g0, g1] <;> (intros; omega))
              have CBA : Hid (∀ w0, Calls Tryz.prog 28 #[.int .i64 3] w0 fun e w' => e = .returned (.agg #[.int .i64 3, .int .i64 (-1)]) ∧ Below w0.heap.size w0 w') := Lib.hid fun w0 => badR_any _ w0
              go_wp2_with (first
                | (go_at_call 23; (with_reducible refine (C7.out _ S6.out).mono ?_); rintro e w7 ⟨rfl, hS, hO⟩; have S7 := Lib.hid hS; have O7 := Lib.hid (O6.out.trans hO); have L7 := Lib.hid (L6.out.only hO (by have := HBL.out; omega)); obtain ⟨-, ⟨c0, f0⟩, ⟨c1, f1⟩⟩ := L7.out; obtain ⟨-, -, k1, kf⟩ := hS; clear hO)
                | (go_at_call 28; (with_reducible refine (CBA.out _).mono ?_); rintro e wz ⟨rfl, hb⟩; have HSZ := Lib.hid (S7.out.call hb); have HOZ := Lib.hid (O7.out.then hb HBW.out); have HLZ := Lib.hid (L7.out.call hb); obtain ⟨-, ⟨c0, f0⟩, ⟨c1, f1⟩⟩ := HLZ.out; clear hb))
              have hq := HLZ.out.put (.int .i64 3) (.int .i64 (-1))
              exact bodyPost_ret (v := .tuple #[.int .i64 (0), .agg #[.int .i64 3, .int .i64 (-1)]]) (by simp [results, Tryz.results24, go_sem, hq.2.1.1, hq.2.2.1]) rfl ⟨0, by rw [HP.out], by rw [HP.out]; exact fun h => absurd h three_ne, by rw [HP.out]; exact ScanAt.res HSZ.out HBL.out _ _, HOZ.out.res HBL.out _ _⟩
            · skip
              have e0 : ((H0 : Int) == 24) = false := by first | (simp; done) | (simp; omega)
              have e0n : (H0 == 24) = false := by first | (simp; done) | (simp; omega)
              have l0 : decide (23 < (H0 : Int)) = false := by first | (simp; done) | (simp; omega)
              have l0n : decide (23 < H0) = false := by first | (simp; done) | (simp; omega)
              have l1 : decide (59 < (H1 : Int)) = true := by first | (simp; done) | (simp; omega)
              have l1n : decide (59 < H1) = true := by first | (simp; done) | (simp; omega)
              have HP : Hid (clockP s true k = ⟨0, 3, -1, dgK s (dgK s (k) 2 + 1) 2⟩) := Lib.hid (by simp [clockP, ckEnd, F1.out, hH0, F5.out, F6.out, hH1, F7.out, g0, g1] <;> (intros; omega))
              have CBA : Hid (∀ w0, Calls Tryz.prog 28 #[.int .i64 3] w0 fun e w' => e = .returned (.agg #[.int .i64 3, .int .i64 (-1)]) ∧ Below w0.heap.size w0 w') := Lib.hid fun w0 => badR_any _ w0
              go_wp2_with (first
                | (go_at_call 23; (with_reducible refine (C7.out _ S6.out).mono ?_); rintro e w7 ⟨rfl, hS, hO⟩; have S7 := Lib.hid hS; have O7 := Lib.hid (O6.out.trans hO); have L7 := Lib.hid (L6.out.only hO (by have := HBL.out; omega)); obtain ⟨-, ⟨c0, f0⟩, ⟨c1, f1⟩⟩ := L7.out; obtain ⟨-, -, k1, kf⟩ := hS; clear hO)
                | (go_at_call 28; (with_reducible refine (CBA.out _).mono ?_); rintro e wz ⟨rfl, hb⟩; have HSZ := Lib.hid (S7.out.call hb); have HOZ := Lib.hid (O7.out.then hb HBW.out); have HLZ := Lib.hid (L7.out.call hb); obtain ⟨-, ⟨c0, f0⟩, ⟨c1, f1⟩⟩ := HLZ.out; clear hb))
              have hq := HLZ.out.put (.int .i64 3) (.int .i64 (-1))
              exact bodyPost_ret (v := .tuple #[.int .i64 (0), .agg #[.int .i64 3, .int .i64 (-1)]]) (by simp [results, Tryz.results24, go_sem, hq.2.1.1, hq.2.2.1]) rfl ⟨0, by rw [HP.out], by rw [HP.out]; exact fun h => absurd h three_ne, by rw [HP.out]; exact ScanAt.res HSZ.out HBL.out _ _, HOZ.out.res HBL.out _ _⟩
            · skip
              have e0 : ((H0 : Int) == 24) = false := by first | (simp; done) | (simp; omega)
              have e0n : (H0 == 24) = false := by first | (simp; done) | (simp; omega)
              have l0 : decide (23 < (H0 : Int)) = false := by first | (simp; done) | (simp; omega)
              have l0n : decide (23 < H0) = false := by first | (simp; done) | (simp; omega)
              have l1 : decide (59 < (H1 : Int)) = false := by first | (simp; done) | (simp; omega)
              have l1n : decide (59 < H1) = false := by first | (simp; done) | (simp; omega)
              have HP : Hid (clockP s true k = ⟨((H0 : Int) * 60 + (H1 : Int)) * 60 + 0, 0, -1, dgK s (dgK s (k) 2 + 1) 2⟩) := Lib.hid (by simp [clockP, ckEnd, F1.out, hH0, F5.out, F6.out, hH1, F7.out, g0, g1] <;> (intros; omega))
              have CFI : Hid (∀ w0, Calls Tryz.prog 29 #[] w0 fun e w' => e = .returned (.agg #[.int .i64 0, .int .i64 (-1)]) ∧ Below w0.heap.size w0 w') := Lib.hid fineR_any
              go_wp2_with (first
                | (go_at_call 23; (with_reducible refine (C7.out _ S6.out).mono ?_); rintro e w7 ⟨rfl, hS, hO⟩; have S7 := Lib.hid hS; have O7 := Lib.hid (O6.out.trans hO); have L7 := Lib.hid (L6.out.only hO (by have := HBL.out; omega)); obtain ⟨-, ⟨c0, f0⟩, ⟨c1, f1⟩⟩ := L7.out; obtain ⟨-, -, k1, kf⟩ := hS; clear hO)
                | (go_at_call 29; (with_reducible refine (CFI.out _).mono ?_); rintro e wz ⟨rfl, hb⟩; have HSZ := Lib.hid (S7.out.call hb); have HOZ := Lib.hid (O7.out.then hb HBW.out); have HLZ := Lib.hid (L7.out.call hb); obtain ⟨-, ⟨c0, f0⟩, ⟨c1, f1⟩⟩ := HLZ.out; clear hb))
              have hq := HLZ.out.put (.int .i64 0) (.int .i64 (-1))
              exact bodyPost_ret (v := .tuple #[.int .i64 ((H0 : Int) * 3600 + (H1 : Int) * 60 + 0), .agg #[.int .i64 0, .int .i64 (-1)]]) (by simp [results, Tryz.results24, go_sem, hq.2.1.1, hq.2.2.1] <;> omega) rfl ⟨(H0 : Int) * 3600 + (H1 : Int) * 60 + 0, by rw [HP.out], by rw [HP.out]; exact fun _ => by first | rfl | (dsimp only; omega), by rw [HP.out]; exact ScanAt.res HSZ.out HBL.out _ _, HOZ.out.res HBL.out _ _⟩
          · have C7 : Hid (∀ w0, ScanAt b s ((dgK s (dgK s (k) 2 + 1) 2 : Nat) : Int) w0 → Calls Tryz.prog 23 #[.pointer (some ⟨b, 0, none⟩), .int .u8 58] w0 fun e w' => e = .returned (.bool true) ∧ ScanAt b s ((dgK s (dgK s (k) 2 + 1) 2 + 1 : Nat) : Int) w' ∧ Only b w0 w') := Lib.hid fun w0 h => by
                have q := ris_any b s (dgK s (dgK s (k) 2 + 1) 2) 58 w0 h hs
                rw [h7, isK_yes h7] at q
                exact q
            have F7 := Lib.hid h7; clear h7
            go_wp2_with (first
              | (go_at_call 23; (with_reducible refine (C7.out _ S6.out).mono ?_); rintro e w7 ⟨rfl, hS, hO⟩; have S7 := Lib.hid hS; have O7 := Lib.hid (O6.out.trans hO); have L7 := Lib.hid (L6.out.only hO (by have := HBL.out; omega)); obtain ⟨-, ⟨c0, f0⟩, ⟨c1, f1⟩⟩ := L7.out; obtain ⟨-, -, k1, kf⟩ := hS; clear hO))
            rcases bool_or (dgB s (dgK s (dgK s (k) 2 + 1) 2 + 1) 2) with h8 | h8
            · have C8 : Hid (∀ w0, ScanAt b s ((dgK s (dgK s (k) 2 + 1) 2 + 1 : Nat) : Int) w0 → Calls Tryz.prog 49 #[.pointer (some ⟨b, 0, none⟩), .int .i64 2] w0 fun e w' => e = .returned (.tuple #[.int .i64 ((dgN s (dgK s (dgK s (k) 2 + 1) 2 + 1) 2 : Nat) : Int), .bool false]) ∧ ScanAt b s ((dgK s (dgK s (dgK s (k) 2 + 1) 2 + 1) 2 : Nat) : Int) w' ∧ Only b w0 w') := Lib.hid fun w0 h => by
                  have q := take_any b s (dgK s (dgK s (k) 2 + 1) 2 + 1) 2 2 rfl w0 h (isB_lt F7.out) hs (by omega)
                  rw [h8] at q
                  exact q
              have hx8 := dgN_lt s (dgK s (dgK s (k) 2 + 1) 2 + 1) 2
              have F8 := Lib.hid h8; clear h8
              have HP : Hid (clockP s true k = ⟨0, 5, ((dgK s (dgK s (dgK s (k) 2 + 1) 2 + 1) 2 : Nat) : Int), dgK s (dgK s (dgK s (k) 2 + 1) 2 + 1) 2⟩) := Lib.hid (by simp [clockP, badC, F1.out, F5.out, F6.out, F7.out, F8.out])
              have CFO : Hid (∀ w0, ScanAt b s ((dgK s (dgK s (dgK s (k) 2 + 1) 2 + 1) 2 : Nat) : Int) w0 → Calls Tryz.prog 26 #[.pointer (some ⟨b, 0, none⟩)] w0 fun e w' => e = .returned (.agg #[.int .i64 5, .int .i64 ((dgK s (dgK s (dgK s (k) 2 + 1) 2 + 1) 2 : Nat) : Int)]) ∧ Below w0.heap.size w0 w') := Lib.hid fun w0 h => form_any b s (dgK s (dgK s (dgK s (k) 2 + 1) 2 + 1) 2) w0 h
              go_wp2_with (first
                | (go_at_call 49; (with_reducible refine (C8.out _ S7.out).mono ?_); rintro e w8 ⟨rfl, hS, hO⟩; have S8 := Lib.hid hS; have O8 := Lib.hid (O7.out.trans hO); have L8 := Lib.hid (L7.out.only hO (by have := HBL.out; omega)); obtain ⟨-, ⟨c0, f0⟩, ⟨c1, f1⟩⟩ := L8.out; obtain ⟨-, -, k1, kf⟩ := hS; clear hO)
                | (go_at_call 26; (with_reducible refine (CFO.out _ S8.out).mono ?_); rintro e wz ⟨rfl, hb⟩; have HSZ := Lib.hid (S8.out.call hb); have HOZ := Lib.hid (O8.out.then hb HBW.out); have HLZ := Lib.hid (L8.out.call hb); obtain ⟨-, ⟨c0, f0⟩, ⟨c1, f1⟩⟩ := HLZ.out; clear hb))
              have hq := HLZ.out.put (.int .i64 5) (.int .i64 (((dgK s (dgK s (dgK s (k) 2 + 1) 2 + 1) 2 : Nat) : Int)))
              exact bodyPost_ret (v := .tuple #[.int .i64 (0), .agg #[.int .i64 5, .int .i64 (((dgK s (dgK s (dgK s (k) 2 + 1) 2 + 1) 2 : Nat) : Int))]]) (by simp [results, Tryz.results24, go_sem, hq.2.1.1, hq.2.2.1]) rfl ⟨0, by rw [HP.out], by rw [HP.out]; exact fun h => absurd h five_ne, by rw [HP.out]; exact ScanAt.res HSZ.out HBL.out _ _, HOZ.out.res HBL.out _ _⟩
            · have C8 : Hid (∀ w0, ScanAt b s ((dgK s (dgK s (k) 2 + 1) 2 + 1 : Nat) : Int) w0 → Calls Tryz.prog 49 #[.pointer (some ⟨b, 0, none⟩), .int .i64 2] w0 fun e w' => e = .returned (.tuple #[.int .i64 ((dgN s (dgK s (dgK s (k) 2 + 1) 2 + 1) 2 : Nat) : Int), .bool true]) ∧ ScanAt b s ((dgK s (dgK s (dgK s (k) 2 + 1) 2 + 1) 2 : Nat) : Int) w' ∧ Only b w0 w') := Lib.hid fun w0 h => by
                  have q := take_any b s (dgK s (dgK s (k) 2 + 1) 2 + 1) 2 2 rfl w0 h (isB_lt F7.out) hs (by omega)
                  rw [h8] at q
                  exact q
              have hx8 := dgN_lt s (dgK s (dgK s (k) 2 + 1) 2 + 1) 2
              have F8 := Lib.hid h8; clear h8
              obtain ⟨H2, hH2⟩ : ∃ H, dgN s (dgK s (dgK s (k) 2 + 1) 2 + 1) 2 = H := ⟨_, rfl⟩
              rw [hH2] at C8
              have hl2 : H2 < 100 := by rw [← hH2]; exact dgN_lt s _ 2
              rcases (show (H0 = 24 ∧ H1 = 0 ∧ H2 = 0) ∨ (H0 = 24 ∧ H1 ≠ 0) ∨ (H0 = 24 ∧ H1 = 0 ∧ H2 ≠ 0) ∨ (H0 ≠ 24 ∧ 23 < H0) ∨ (¬ 23 < H0 ∧ 59 < H1) ∨ (¬ 23 < H0 ∧ ¬ 59 < H1 ∧ 59 < H2) ∨ (¬ 23 < H0 ∧ ¬ 59 < H1 ∧ ¬ 59 < H2) by omega) with ⟨g0, g1, g2⟩ | ⟨g0, g1⟩ | ⟨g0, g1, g2⟩ | ⟨g0, g1⟩ | ⟨g0, g1⟩ | ⟨g0, g1, g2⟩ | ⟨g0, g1, g2⟩
              · skip
                have e0 : ((H0 : Int) == 24) = true := by first | (simp; done) | (simp; omega)
                have e0n : (H0 == 24) = true := by first | (simp; done) | (simp; omega)
                have e1 : ((H1 : Int) == 0) = true := by first | (simp; done) | (simp; omega)
                have e1n : (H1 == 0) = true := by first | (simp; done) | (simp; omega)
                have e2 : ((H2 : Int) == 0) = true := by first | (simp; done) | (simp; omega)
                have e2n : (H2 == 0) = true := by first | (simp; done) | (simp; omega)
                have HP : Hid (clockP s true k = ⟨86400, 0, -1, dgK s (dgK s (dgK s (k) 2 + 1) 2 + 1) 2⟩) := Lib.hid (by simp [clockP, ckEnd, F1.out, hH0, F5.out, F6.out, hH1, F7.out, F8.out, hH2, g0, g1, g2] <;> (intros; omega))
                have CFI : Hid (∀ w0, Calls Tryz.prog 29 #[] w0 fun e w' => e = .returned (.agg #[.int .i64 0, .int .i64 (-1)]) ∧ Below w0.heap.size w0 w') := Lib.hid fineR_any
                go_wp2_with (first
                  | (go_at_call 49; (with_reducible refine (C8.out _ S7.out).mono ?_); rintro e w8 ⟨rfl, hS, hO⟩; have S8 := Lib.hid hS; have O8 := Lib.hid (O7.out.trans hO); have L8 := Lib.hid (L7.out.only hO (by have := HBL.out; omega)); obtain ⟨-, ⟨c0, f0⟩, ⟨c1, f1⟩⟩ := L8.out; obtain ⟨-, -, k1, kf⟩ := hS; clear hO)
                  | (go_at_call 29; (with_reducible refine (CFI.out _).mono ?_); rintro e wz ⟨rfl, hb⟩; have HSZ := Lib.hid (S8.out.call hb); have HOZ := Lib.hid (O8.out.then hb HBW.out); have HLZ := Lib.hid (L8.out.call hb); obtain ⟨-, ⟨c0, f0⟩, ⟨c1, f1⟩⟩ := HLZ.out; clear hb))
                have hq := HLZ.out.put (.int .i64 0) (.int .i64 (-1))
                exact bodyPost_ret (v := .tuple #[.int .i64 (86400), .agg #[.int .i64 0, .int .i64 (-1)]]) (by simp [results, Tryz.results24, go_sem, hq.2.1.1, hq.2.2.1]) rfl ⟨86400, by rw [HP.out], by rw [HP.out]; exact fun _ => by first | rfl | (dsimp only; omega), by rw [HP.out]; exact ScanAt.res HSZ.out HBL.out _ _, HOZ.out.res HBL.out _ _⟩
              · skip
                have e0 : ((H0 : Int) == 24) = true := by first | (simp; done) | (simp; omega)
                have e0n : (H0 == 24) = true := by first | (simp; done) | (simp; omega)
                have e1 : ((H1 : Int) == 0) = false := by first | (simp; done) | (simp; omega)
                have e1n : (H1 == 0) = false := by first | (simp; done) | (simp; omega)
                have l0 : decide (23 < (H0 : Int)) = true := by first | (simp; done) | (simp; omega)
                have l0n : decide (23 < H0) = true := by first | (simp; done) | (simp; omega)
                have HP : Hid (clockP s true k = ⟨0, 3, -1, dgK s (dgK s (dgK s (k) 2 + 1) 2 + 1) 2⟩) := Lib.hid (by simp [clockP, ckEnd, F1.out, hH0, F5.out, F6.out, hH1, F7.out, F8.out, hH2, g0, g1] <;> (intros; omega))
                have CBA : Hid (∀ w0, Calls Tryz.prog 28 #[.int .i64 3] w0 fun e w' => e = .returned (.agg #[.int .i64 3, .int .i64 (-1)]) ∧ Below w0.heap.size w0 w') := Lib.hid fun w0 => badR_any _ w0
                go_wp2_with (first
                  | (go_at_call 49; (with_reducible refine (C8.out _ S7.out).mono ?_); rintro e w8 ⟨rfl, hS, hO⟩; have S8 := Lib.hid hS; have O8 := Lib.hid (O7.out.trans hO); have L8 := Lib.hid (L7.out.only hO (by have := HBL.out; omega)); obtain ⟨-, ⟨c0, f0⟩, ⟨c1, f1⟩⟩ := L8.out; obtain ⟨-, -, k1, kf⟩ := hS; clear hO)
                  | (go_at_call 28; (with_reducible refine (CBA.out _).mono ?_); rintro e wz ⟨rfl, hb⟩; have HSZ := Lib.hid (S8.out.call hb); have HOZ := Lib.hid (O8.out.then hb HBW.out); have HLZ := Lib.hid (L8.out.call hb); obtain ⟨-, ⟨c0, f0⟩, ⟨c1, f1⟩⟩ := HLZ.out; clear hb))
                have hq := HLZ.out.put (.int .i64 3) (.int .i64 (-1))
                exact bodyPost_ret (v := .tuple #[.int .i64 (0), .agg #[.int .i64 3, .int .i64 (-1)]]) (by simp [results, Tryz.results24, go_sem, hq.2.1.1, hq.2.2.1]) rfl ⟨0, by rw [HP.out], by rw [HP.out]; exact fun h => absurd h three_ne, by rw [HP.out]; exact ScanAt.res HSZ.out HBL.out _ _, HOZ.out.res HBL.out _ _⟩
              · skip
                have e0 : ((H0 : Int) == 24) = true := by first | (simp; done) | (simp; omega)
                have e0n : (H0 == 24) = true := by first | (simp; done) | (simp; omega)
                have e1 : ((H1 : Int) == 0) = true := by first | (simp; done) | (simp; omega)
                have e1n : (H1 == 0) = true := by first | (simp; done) | (simp; omega)
                have e2 : ((H2 : Int) == 0) = false := by first | (simp; done) | (simp; omega)
                have e2n : (H2 == 0) = false := by first | (simp; done) | (simp; omega)
                have l0 : decide (23 < (H0 : Int)) = true := by first | (simp; done) | (simp; omega)
                have l0n : decide (23 < H0) = true := by first | (simp; done) | (simp; omega)
                have HP : Hid (clockP s true k = ⟨0, 3, -1, dgK s (dgK s (dgK s (k) 2 + 1) 2 + 1) 2⟩) := Lib.hid (by simp [clockP, ckEnd, F1.out, hH0, F5.out, F6.out, hH1, F7.out, F8.out, hH2, g0, g1, g2] <;> (intros; omega))
                have CBA : Hid (∀ w0, Calls Tryz.prog 28 #[.int .i64 3] w0 fun e w' => e = .returned (.agg #[.int .i64 3, .int .i64 (-1)]) ∧ Below w0.heap.size w0 w') := Lib.hid fun w0 => badR_any _ w0
                go_wp2_with (first
                  | (go_at_call 49; (with_reducible refine (C8.out _ S7.out).mono ?_); rintro e w8 ⟨rfl, hS, hO⟩; have S8 := Lib.hid hS; have O8 := Lib.hid (O7.out.trans hO); have L8 := Lib.hid (L7.out.only hO (by have := HBL.out; omega)); obtain ⟨-, ⟨c0, f0⟩, ⟨c1, f1⟩⟩ := L8.out; obtain ⟨-, -, k1, kf⟩ := hS; clear hO)
                  | (go_at_call 28; (with_reducible refine (CBA.out _).mono ?_); rintro e wz ⟨rfl, hb⟩; have HSZ := Lib.hid (S8.out.call hb); have HOZ := Lib.hid (O8.out.then hb HBW.out); have HLZ := Lib.hid (L8.out.call hb); obtain ⟨-, ⟨c0, f0⟩, ⟨c1, f1⟩⟩ := HLZ.out; clear hb))
                have hq := HLZ.out.put (.int .i64 3) (.int .i64 (-1))
                exact bodyPost_ret (v := .tuple #[.int .i64 (0), .agg #[.int .i64 3, .int .i64 (-1)]]) (by simp [results, Tryz.results24, go_sem, hq.2.1.1, hq.2.2.1]) rfl ⟨0, by rw [HP.out], by rw [HP.out]; exact fun h => absurd h three_ne, by rw [HP.out]; exact ScanAt.res HSZ.out HBL.out _ _, HOZ.out.res HBL.out _ _⟩
              · skip
                have e0 : ((H0 : Int) == 24) = false := by first | (simp; done) | (simp; omega)
                have e0n : (H0 == 24) = false := by first | (simp; done) | (simp; omega)
                have l0 : decide (23 < (H0 : Int)) = true := by first | (simp; done) | (simp; omega)
                have l0n : decide (23 < H0) = true := by first | (simp; done) | (simp; omega)
                have HP : Hid (clockP s true k = ⟨0, 3, -1, dgK s (dgK s (dgK s (k) 2 + 1) 2 + 1) 2⟩) := Lib.hid (by simp [clockP, ckEnd, F1.out, hH0, F5.out, F6.out, hH1, F7.out, F8.out, hH2, g0, g1] <;> (intros; omega))
                have CBA : Hid (∀ w0, Calls Tryz.prog 28 #[.int .i64 3] w0 fun e w' => e = .returned (.agg #[.int .i64 3, .int .i64 (-1)]) ∧ Below w0.heap.size w0 w') := Lib.hid fun w0 => badR_any _ w0
                go_wp2_with (first
                  | (go_at_call 49; (with_reducible refine (C8.out _ S7.out).mono ?_); rintro e w8 ⟨rfl, hS, hO⟩; have S8 := Lib.hid hS; have O8 := Lib.hid (O7.out.trans hO); have L8 := Lib.hid (L7.out.only hO (by have := HBL.out; omega)); obtain ⟨-, ⟨c0, f0⟩, ⟨c1, f1⟩⟩ := L8.out; obtain ⟨-, -, k1, kf⟩ := hS; clear hO)
                  | (go_at_call 28; (with_reducible refine (CBA.out _).mono ?_); rintro e wz ⟨rfl, hb⟩; have HSZ := Lib.hid (S8.out.call hb); have HOZ := Lib.hid (O8.out.then hb HBW.out); have HLZ := Lib.hid (L8.out.call hb); obtain ⟨-, ⟨c0, f0⟩, ⟨c1, f1⟩⟩ := HLZ.out; clear hb))
                have hq := HLZ.out.put (.int .i64 3) (.int .i64 (-1))
                exact bodyPost_ret (v := .tuple #[.int .i64 (0), .agg #[.int .i64 3, .int .i64 (-1)]]) (by simp [results, Tryz.results24, go_sem, hq.2.1.1, hq.2.2.1]) rfl ⟨0, by rw [HP.out], by rw [HP.out]; exact fun h => absurd h three_ne, by rw [HP.out]; exact ScanAt.res HSZ.out HBL.out _ _, HOZ.out.res HBL.out _ _⟩
              · skip
                have e0 : ((H0 : Int) == 24) = false := by first | (simp; done) | (simp; omega)
                have e0n : (H0 == 24) = false := by first | (simp; done) | (simp; omega)
                have l0 : decide (23 < (H0 : Int)) = false := by first | (simp; done) | (simp; omega)
                have l0n : decide (23 < H0) = false := by first | (simp; done) | (simp; omega)
                have l1 : decide (59 < (H1 : Int)) = true := by first | (simp; done) | (simp; omega)
                have l1n : decide (59 < H1) = true := by first | (simp; done) | (simp; omega)
                have HP : Hid (clockP s true k = ⟨0, 3, -1, dgK s (dgK s (dgK s (k) 2 + 1) 2 + 1) 2⟩) := Lib.hid (by simp [clockP, ckEnd, F1.out, hH0, F5.out, F6.out, hH1, F7.out, F8.out, hH2, g0, g1] <;> (intros; omega))
                have CBA : Hid (∀ w0, Calls Tryz.prog 28 #[.int .i64 3] w0 fun e w' => e = .returned (.agg #[.int .i64 3, .int .i64 (-1)]) ∧ Below w0.heap.size w0 w') := Lib.hid fun w0 => badR_any _ w0
                go_wp2_with (first
                  | (go_at_call 49; (with_reducible refine (C8.out _ S7.out).mono ?_); rintro e w8 ⟨rfl, hS, hO⟩; have S8 := Lib.hid hS; have O8 := Lib.hid (O7.out.trans hO); have L8 := Lib.hid (L7.out.only hO (by have := HBL.out; omega)); obtain ⟨-, ⟨c0, f0⟩, ⟨c1, f1⟩⟩ := L8.out; obtain ⟨-, -, k1, kf⟩ := hS; clear hO)
                  | (go_at_call 28; (with_reducible refine (CBA.out _).mono ?_); rintro e wz ⟨rfl, hb⟩; have HSZ := Lib.hid (S8.out.call hb); have HOZ := Lib.hid (O8.out.then hb HBW.out); have HLZ := Lib.hid (L8.out.call hb); obtain ⟨-, ⟨c0, f0⟩, ⟨c1, f1⟩⟩ := HLZ.out; clear hb))
                have hq := HLZ.out.put (.int .i64 3) (.int .i64 (-1))
                exact bodyPost_ret (v := .tuple #[.int .i64 (0), .agg #[.int .i64 3, .int .i64 (-1)]]) (by simp [results, Tryz.results24, go_sem, hq.2.1.1, hq.2.2.1]) rfl ⟨0, by rw [HP.out], by rw [HP.out]; exact fun h => absurd h three_ne, by rw [HP.out]; exact ScanAt.res HSZ.out HBL.out _ _, HOZ.out.res HBL.out _ _⟩
              · skip
                have e0 : ((H0 : Int) == 24) = false := by first | (simp; done) | (simp; omega)
                have e0n : (H0 == 24) = false := by first | (simp; done) | (simp; omega)
                have l0 : decide (23 < (H0 : Int)) = false := by first | (simp; done) | (simp; omega)
                have l0n : decide (23 < H0) = false := by first | (simp; done) | (simp; omega)
                have l1 : decide (59 < (H1 : Int)) = false := by first | (simp; done) | (simp; omega)
                have l1n : decide (59 < H1) = false := by first | (simp; done) | (simp; omega)
                have l2 : decide (59 < (H2 : Int)) = true := by first | (simp; done) | (simp; omega)
                have l2n : decide (59 < H2) = true := by first | (simp; done) | (simp; omega)
                have HP : Hid (clockP s true k = ⟨0, 3, -1, dgK s (dgK s (dgK s (k) 2 + 1) 2 + 1) 2⟩) := Lib.hid (by simp [clockP, ckEnd, F1.out, hH0, F5.out, F6.out, hH1, F7.out, F8.out, hH2, g0, g1, g2] <;> (intros; omega))
                have CBA : Hid (∀ w0, Calls Tryz.prog 28 #[.int .i64 3] w0 fun e w' => e = .returned (.agg #[.int .i64 3, .int .i64 (-1)]) ∧ Below w0.heap.size w0 w') := Lib.hid fun w0 => badR_any _ w0
                go_wp2_with (first
                  | (go_at_call 49; (with_reducible refine (C8.out _ S7.out).mono ?_); rintro e w8 ⟨rfl, hS, hO⟩; have S8 := Lib.hid hS; have O8 := Lib.hid (O7.out.trans hO); have L8 := Lib.hid (L7.out.only hO (by have := HBL.out; omega)); obtain ⟨-, ⟨c0, f0⟩, ⟨c1, f1⟩⟩ := L8.out; obtain ⟨-, -, k1, kf⟩ := hS; clear hO)
                  | (go_at_call 28; (with_reducible refine (CBA.out _).mono ?_); rintro e wz ⟨rfl, hb⟩; have HSZ := Lib.hid (S8.out.call hb); have HOZ := Lib.hid (O8.out.then hb HBW.out); have HLZ := Lib.hid (L8.out.call hb); obtain ⟨-, ⟨c0, f0⟩, ⟨c1, f1⟩⟩ := HLZ.out; clear hb))
                have hq := HLZ.out.put (.int .i64 3) (.int .i64 (-1))
                exact bodyPost_ret (v := .tuple #[.int .i64 (0), .agg #[.int .i64 3, .int .i64 (-1)]]) (by simp [results, Tryz.results24, go_sem, hq.2.1.1, hq.2.2.1]) rfl ⟨0, by rw [HP.out], by rw [HP.out]; exact fun h => absurd h three_ne, by rw [HP.out]; exact ScanAt.res HSZ.out HBL.out _ _, HOZ.out.res HBL.out _ _⟩
              · skip
                have e0 : ((H0 : Int) == 24) = false := by first | (simp; done) | (simp; omega)
                have e0n : (H0 == 24) = false := by first | (simp; done) | (simp; omega)
                have l0 : decide (23 < (H0 : Int)) = false := by first | (simp; done) | (simp; omega)
                have l0n : decide (23 < H0) = false := by first | (simp; done) | (simp; omega)
                have l1 : decide (59 < (H1 : Int)) = false := by first | (simp; done) | (simp; omega)
                have l1n : decide (59 < H1) = false := by first | (simp; done) | (simp; omega)
                have l2 : decide (59 < (H2 : Int)) = false := by first | (simp; done) | (simp; omega)
                have l2n : decide (59 < H2) = false := by first | (simp; done) | (simp; omega)
                have HP : Hid (clockP s true k = ⟨((H0 : Int) * 60 + (H1 : Int)) * 60 + (H2 : Int), 0, -1, dgK s (dgK s (dgK s (k) 2 + 1) 2 + 1) 2⟩) := Lib.hid (by simp [clockP, ckEnd, F1.out, hH0, F5.out, F6.out, hH1, F7.out, F8.out, hH2, g0, g1, g2] <;> (intros; omega))
                have CFI : Hid (∀ w0, Calls Tryz.prog 29 #[] w0 fun e w' => e = .returned (.agg #[.int .i64 0, .int .i64 (-1)]) ∧ Below w0.heap.size w0 w') := Lib.hid fineR_any
                go_wp2_with (first
                  | (go_at_call 49; (with_reducible refine (C8.out _ S7.out).mono ?_); rintro e w8 ⟨rfl, hS, hO⟩; have S8 := Lib.hid hS; have O8 := Lib.hid (O7.out.trans hO); have L8 := Lib.hid (L7.out.only hO (by have := HBL.out; omega)); obtain ⟨-, ⟨c0, f0⟩, ⟨c1, f1⟩⟩ := L8.out; obtain ⟨-, -, k1, kf⟩ := hS; clear hO)
                  | (go_at_call 29; (with_reducible refine (CFI.out _).mono ?_); rintro e wz ⟨rfl, hb⟩; have HSZ := Lib.hid (S8.out.call hb); have HOZ := Lib.hid (O8.out.then hb HBW.out); have HLZ := Lib.hid (L8.out.call hb); obtain ⟨-, ⟨c0, f0⟩, ⟨c1, f1⟩⟩ := HLZ.out; clear hb))
                have hq := HLZ.out.put (.int .i64 0) (.int .i64 (-1))
                exact bodyPost_ret (v := .tuple #[.int .i64 ((H0 : Int) * 3600 + (H1 : Int) * 60 + (H2 : Int)), .agg #[.int .i64 0, .int .i64 (-1)]]) (by simp [results, Tryz.results24, go_sem, hq.2.1.1, hq.2.2.1] <;> omega) rfl ⟨(H0 : Int) * 3600 + (H1 : Int) * 60 + (H2 : Int), by rw [HP.out], by rw [HP.out]; exact fun _ => by first | rfl | (dsimp only; omega), by rw [HP.out]; exact ScanAt.res HSZ.out HBL.out _ _, HOZ.out.res HBL.out _ _⟩
end Go.Proofs.YtkfpnlenmdlmjaaGreatDoor
