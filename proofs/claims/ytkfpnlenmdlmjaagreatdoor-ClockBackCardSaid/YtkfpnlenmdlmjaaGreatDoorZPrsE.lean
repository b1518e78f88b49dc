/- The clock of a stamp's text, as the program reads it. Printed by a program of mine. -/
import Derived.Test.YtkfpnlenmdlmjaaGreatDoorZPrsD
namespace Go.Proofs.YtkfpnlenmdlmjaaGreatDoor
open Go.RowKit Scm
structure CkP where
  sec : Int
  err : Int
  place : Int
  at_ : Nat
def badC (k : Nat) : CkP := ⟨0, 5, k, k⟩
def ckEnd (h m z : Nat) (k : Nat) : CkP := if h = 24 ∧ m = 0 ∧ z = 0 then ⟨86400, 0, -1, k⟩ else if 23 < h ∨ 59 < m ∨ 59 < z then ⟨0, 3, -1, k⟩ else ⟨(h * 60 + m) * 60 + z, 0, -1, k⟩
/-- Does a separator stand there, and where it goes on. -/
def clockP (s : ByteArray) (wd : Bool) (k : Nat) : CkP :=
  if dgB s k 2 = true then
    if wd = true ∧ isB s (dgK s k 2) 58 = false then badC (dgK s k 2)
    else if dgB s (if wd = true then dgK s k 2 + 1 else dgK s k 2) 2 = true then
      if (if wd = true then isB s (dgK s (if wd = true then dgK s k 2 + 1 else dgK s k 2) 2) 58 else !(run_ s (dgK s (if wd = true then dgK s k 2 + 1 else dgK s k 2) 2) == 0)) = true then
        if dgB s (if wd = true then dgK s (if wd = true then dgK s k 2 + 1 else dgK s k 2) 2 + 1 else dgK s (if wd = true then dgK s k 2 + 1 else dgK s k 2) 2) 2 = true then
          ckEnd (dgN s k 2) (dgN s (if wd = true then dgK s k 2 + 1 else dgK s k 2) 2) (dgN s (if wd = true then dgK s (if wd = true then dgK s k 2 + 1 else dgK s k 2) 2 + 1 else dgK s (if wd = true then dgK s k 2 + 1 else dgK s k 2) 2) 2) (dgK s (if wd = true then dgK s (if wd = true then dgK s k 2 + 1 else dgK s k 2) 2 + 1 else dgK s (if wd = true then dgK s k 2 + 1 else dgK s k 2) 2) 2)
        else badC (dgK s (if wd = true then dgK s (if wd = true then dgK s k 2 + 1 else dgK s k 2) 2 + 1 else dgK s (if wd = true then dgK s k 2 + 1 else dgK s k 2) 2) 2)
      else ckEnd (dgN s k 2) (dgN s (if wd = true then dgK s k 2 + 1 else dgK s k 2) 2) 0 (dgK s (if wd = true then dgK s k 2 + 1 else dgK s k 2) 2)
    else badC (dgK s (if wd = true then dgK s k 2 + 1 else dgK s k 2) 2)
  else badC (dgK s k 2)
/-- What clock answers. -/
def CkPost (b : Nat) (s : ByteArray) (P : CkP) (w : World) (e : Ending) (w' : World) : Prop :=
  ∃ K v, e = .returned (.tuple #[.int .i64 K, v]) ∧ (P.err = 0 → K = P.sec) ∧ ErrIs w.heap.size P.err P.place v w' ∧ ScanAt b s (P.at_ : Int) w' ∧ Only b w w'
theorem ScanAt.off {b : Nat} {s : ByteArray} {k : Int} {w : World} (h : ScanAt b s k w) (p : Addr) (hp : p.block ≠ b) (v : Value) : ScanAt b s k (w.setCell p v) := by
  obtain ⟨h1, h2, h3, h4⟩ := h
  refine ⟨by simp [World.setCell]; exact h1, ?_, ?_, by rw [World.frozen?_setCell]; exact h4⟩
  · rw [World.cell?_setCell_other _ _ _ _ (by intro e; exact hp (congrArg Addr.block e))]; exact h2
  · rw [World.cell?_setCell_other _ _ _ _ (by intro e; exact hp (congrArg Addr.block e))]; exact h3
/-- Three numbers in a box. -/
def L3 (B : Nat) (x0 x1 x2 : Int) (w : World) : Prop := B < w.heap.size ∧ (w.cell? ⟨B, 0, none⟩ = some (.int .i64 x0) ∧ w.frozen? ⟨B, 0, none⟩ = false) ∧ (w.cell? ⟨B, 1, none⟩ = some (.int .i64 x1) ∧ w.frozen? ⟨B, 1, none⟩ = false) ∧ (w.cell? ⟨B, 2, none⟩ = some (.int .i64 x2) ∧ w.frozen? ⟨B, 2, none⟩ = false)
theorem L3.new (w : World) (t : TypeId) : L3 w.heap.size 0 0 0 (w.alloc (.cells #[.int .i64 0, .int .i64 0, .int .i64 0] t)) := ⟨by simp, ⟨by simp, by simp⟩, ⟨by simp, by simp⟩, ⟨by simp, by simp⟩⟩
theorem L3.drewN {B : Nat} {x0 x1 x2 : Int} {w : World} (h : L3 B x0 x1 x2 w) (q : Nat) : L3 B x0 x1 x2 (w.drewN q) := h
theorem L3.only {B b : Nat} {x0 x1 x2 : Int} {w w' : World} (h : L3 B x0 x1 x2 w) (hO : Only b w w') (hne : B ≠ b) : L3 B x0 x1 x2 w' := by
  obtain ⟨h0, ⟨c0, f0⟩, ⟨c1, f1⟩, ⟨c2, f2⟩⟩ := h
  exact ⟨Nat.lt_of_lt_of_le h0 hO.1.size, ⟨(hO.cell (p := ⟨B, 0, none⟩) h0 hne).trans c0, (hO.frozen (p := ⟨B, 0, none⟩) h0 hne).trans f0⟩, ⟨(hO.cell (p := ⟨B, 1, none⟩) h0 hne).trans c1, (hO.frozen (p := ⟨B, 1, none⟩) h0 hne).trans f1⟩, ⟨(hO.cell (p := ⟨B, 2, none⟩) h0 hne).trans c2, (hO.frozen (p := ⟨B, 2, none⟩) h0 hne).trans f2⟩⟩
theorem far3 (w : World) (B i j : Nat) (v : Value) (h : i ≠ j) : (w.setCell ⟨B, j, none⟩ v).cell? ⟨B, i, none⟩ = w.cell? ⟨B, i, none⟩ := World.cell?_setCell_other _ _ _ _ (by intro e; exact h (congrArg Addr.off e).symm)
theorem L3.put0 {B : Nat} {x0 x1 x2 : Int} {w : World} (h : L3 B x0 x1 x2 w) (x : Int) : L3 B x x1 x2 (w.setCell ⟨B, 0, none⟩ (.int .i64 x)) := by
  obtain ⟨h0, ⟨c0, f0⟩, ⟨c1, f1⟩, ⟨c2, f2⟩⟩ := h
  exact ⟨by simp [World.setCell]; exact h0, ⟨World.cell?_setCell_same _ _ _ c0, by rw [World.frozen?_setCell]; exact f0⟩, ⟨by rw [far3 _ _ 1 0 _ (by decide)]; exact c1, by rw [World.frozen?_setCell]; exact f1⟩, ⟨by rw [far3 _ _ 2 0 _ (by decide)]; exact c2, by rw [World.frozen?_setCell]; exact f2⟩⟩
theorem L3.put1 {B : Nat} {x0 x1 x2 : Int} {w : World} (h : L3 B x0 x1 x2 w) (x : Int) : L3 B x0 x x2 (w.setCell ⟨B, 1, none⟩ (.int .i64 x)) := by
  obtain ⟨h0, ⟨c0, f0⟩, ⟨c1, f1⟩, ⟨c2, f2⟩⟩ := h
  exact ⟨by simp [World.setCell]; exact h0, ⟨by rw [far3 _ _ 0 1 _ (by decide)]; exact c0, by rw [World.frozen?_setCell]; exact f0⟩, ⟨World.cell?_setCell_same _ _ _ c1, by rw [World.frozen?_setCell]; exact f1⟩, ⟨by rw [far3 _ _ 2 1 _ (by decide)]; exact c2, by rw [World.frozen?_setCell]; exact f2⟩⟩
theorem L3.put2 {B : Nat} {x0 x1 x2 : Int} {w : World} (h : L3 B x0 x1 x2 w) (x : Int) : L3 B x0 x1 x (w.setCell ⟨B, 2, none⟩ (.int .i64 x)) := by
  obtain ⟨h0, ⟨c0, f0⟩, ⟨c1, f1⟩, ⟨c2, f2⟩⟩ := h
  exact ⟨by simp [World.setCell]; exact h0, ⟨by rw [far3 _ _ 0 2 _ (by decide)]; exact c0, by rw [World.frozen?_setCell]; exact f0⟩, ⟨by rw [far3 _ _ 1 2 _ (by decide)]; exact c1, by rw [World.frozen?_setCell]; exact f1⟩, ⟨World.cell?_setCell_same _ _ _ c2, by rw [World.frozen?_setCell]; exact f2⟩⟩
theorem Only.above {b : Nat} {w w' : World} (h : Only b w w') (hb : b < w.heap.size) (o : Nat) (v : Value) : Only b w (w'.setCell ⟨w.heap.size, o, none⟩ v) :=
  ⟨h.1.setCell (p := ⟨w.heap.size, o, none⟩) (Nat.le_of_lt hb) v, fun k hk hne => (Below.heap_setCell _ _ _ _ (Nat.ne_of_lt hk)).trans (h.2 k hk hne)⟩
set_option maxRecDepth 100000 in
set_option maxHeartbeats 16000000 in
theorem cclock_any (b : Nat) (s : ByteArray) (k : Nat) (wd : Bool) (w : World) (h : ScanAt b s k w) (hk : k ≤ s.size) (hs : s.size ≤ 9223372036854775807) :
    Calls Tryz.prog 43 #[.pointer (some ⟨b, 0, none⟩), .bool wd] w (CkPost b s (clockP s wd k) w) := by
  have HBL : Hid (b < w.heap.size) := Lib.hid h.1
  have HBW : Hid (b ≤ w.heap.size) := Lib.hid (Nat.le_of_lt h.1)
  have S0 : Hid (ScanAt b s k (w.alloc (.cells #[.int .i64 0, .int .i64 0, .int .i64 0] 151))) := Lib.hid (h.alloc _)
  have O0 : Hid (Only b w (w.alloc (.cells #[.int .i64 0, .int .i64 0, .int .i64 0] 151))) := Lib.hid ((Only.refl b w).alloc (Nat.le_of_lt h.1) _)
  have L0 : Hid (L3 w.heap.size 0 0 0 (w.alloc (.cells #[.int .i64 0, .int .i64 0, .int .i64 0] 151))) := Lib.hid (L3.new w _)
  clear h
  go_enter Tryz.func43, Tryz.ntmps43
  go_wp2_with fail
  refine wp_loop_rounds 4 ?_
  rw [rounds_succ]; go_wp2_with fail
  rcases bool_or (dgB s (k) 2) with h1 | h1
  · have C1 : Hid (∀ w0, ScanAt b s ((k : Nat) : Int) w0 → Calls Tryz.prog 78 #[.pointer (some ⟨b, 0, none⟩), .int .i64 2] w0 fun e w' => e = .returned (.tuple #[.int .i64 ((dgN s (k) 2 : Nat) : Int), .bool false]) ∧ ScanAt b s ((dgK s (k) 2 : Nat) : Int) w' ∧ Only b w0 w') := Lib.hid fun w0 h => by
        have q := digits_any b s (k) 2 2 rfl w0 h hk hs (by omega)
        rw [h1] at q
        exact q
    have hx1 := dgN_lt s (k) 2
    have F1 := Lib.hid h1; clear h1
    have C2 : Hid (∀ w0, ScanAt b s ((dgK s (k) 2 : Nat) : Int) w0 → Calls Tryz.prog 45 #[.pointer (some ⟨b, 0, none⟩)] w0 fun e w' => ∃ p : Nat, e = .returned (.iface 105 (.pointer (some ⟨p, 0, none⟩))) ∧ AtBox w0.heap.size 5 ((dgK s (k) 2 : Nat) : Int) (.iface 105 (.pointer (some ⟨p, 0, none⟩))) w' ∧ Below w0.heap.size w0 w') := Lib.hid fun w0 h => bad_any b s (dgK s (k) 2) w0 h
    have HP : Hid (clockP s wd k = ⟨0, 5, ((dgK s (k) 2 : Nat) : Int), dgK s (k) 2⟩) := Lib.hid (by simp [clockP, badC, F1.out])
    go_wp2_with (first
      | (go_at_call 78; (with_reducible refine (C1.out _ S0.out).mono ?_); rintro e w1 ⟨rfl, hS, hO⟩; have S1 := Lib.hid hS; have O1 := Lib.hid (O0.out.trans hO); clear hS hO)
      | (go_at_call 45; (with_reducible refine (C2.out _ S1.out).mono ?_); rintro e wz ⟨p, rfl, hX, hb⟩; have HXZ := Lib.hid hX; have HSZ := Lib.hid (S1.out.call hb); have HOZ := Lib.hid (O1.out.then hb HBW.out); have HLZ := Lib.hid O1.out.1.size; clear hX hb))
    go_ret2
    exact ⟨_, _, rfl, by rw [HP.out]; exact fun h => absurd h five_ne, by rw [HP.out]; exact .inr (.inr ⟨five_ne, Int.natCast_nonneg _, HXZ.out.mono HLZ.out⟩), by rw [HP.out]; exact HSZ.out, HOZ.out⟩
  · have C1 : Hid (∀ w0, ScanAt b s ((k : Nat) : Int) w0 → Calls Tryz.prog 78 #[.pointer (some ⟨b, 0, none⟩), .int .i64 2] w0 fun e w' => e = .returned (.tuple #[.int .i64 ((dgN s (k) 2 : Nat) : Int), .bool true]) ∧ ScanAt b s ((dgK s (k) 2 : Nat) : Int) w' ∧ Only b w0 w') := Lib.hid fun w0 h => by
        have q := digits_any b s (k) 2 2 rfl w0 h hk hs (by omega)
        rw [h1] at q
        exact q
    have hx1 := dgN_lt s (k) 2
    have F1 := Lib.hid h1; clear h1
    obtain ⟨H0, hH0⟩ : ∃ H, dgN s (k) 2 = H := ⟨_, rfl⟩
    rw [hH0] at C1
    have hl0 : H0 < 100 := by rw [← hH0]; exact dgN_lt s _ 2
    rcases wd with _ | _
    · skip
      go_wp2_with (first
        | (go_at_call 78; (with_reducible refine (C1.out _ S0.out).mono ?_); rintro e w1 ⟨rfl, hS, hO⟩; have S1 := Lib.hid (ScanAt.off hS ⟨w.heap.size, 0, none⟩ (Nat.ne_of_gt HBL.out) (.int .i64 (H0 : Int))); have O1 := Lib.hid ((O0.out.trans hO).above HBL.out 0 (.int .i64 (H0 : Int))); have hL := L0.out.only hO (by have := HBL.out; omega); have L1 := Lib.hid (hL.put0 (H0 : Int)); obtain ⟨-, ⟨c0, f0⟩, ⟨c1, f1⟩, ⟨c2, f2⟩⟩ := hL; clear hS hO))
      try (rw [rounds_succ]; go_wp2_with fail)
      have C3 : Hid (∀ w0, ScanAt b s ((dgK s (k) 2 : Nat) : Int) w0 → Calls Tryz.prog 80 #[.pointer (some ⟨b, 0, none⟩)] w0 fun e w' => e = .returned (.int .i64 ((run_ s (dgK s (k) 2) : Nat) : Int)) ∧ ∃ q, w' = w0.drewN q) := Lib.hid fun w0 h => crun_any b s (dgK s (k) 2) w0 h (dgK_le hk) hs
      obtain ⟨R3, hR3⟩ : ∃ R, run_ s (dgK s (k) 2) = R := ⟨_, rfl⟩; rw [hR3] at C3
      by_cases r3 : R3 = 0
      · subst r3
        have dd := dg_no (s := s) (k := dgK s (k) 2) (n := 2) (by omega)
        have d1 : dgB s (dgK s (k) 2) 2 = false := dd.1
        have d2 : dgK s (dgK s (k) 2) 2 = dgK s (k) 2 := by have q := dd.2.2; omega
        clear dd
        have C4 : Hid (∀ w0, ScanAt b s ((dgK s (k) 2 : Nat) : Int) w0 → Calls Tryz.prog 45 #[.pointer (some ⟨b, 0, none⟩)] w0 fun e w' => ∃ p : Nat, e = .returned (.iface 105 (.pointer (some ⟨p, 0, none⟩))) ∧ AtBox w0.heap.size 5 ((dgK s (k) 2 : Nat) : Int) (.iface 105 (.pointer (some ⟨p, 0, none⟩))) w' ∧ Below w0.heap.size w0 w') := Lib.hid fun w0 h => bad_any b s (dgK s (k) 2) w0 h
        have HP : Hid (clockP s false k = ⟨0, 5, ((dgK s (k) 2 : Nat) : Int), dgK s (k) 2⟩) := Lib.hid (by simp [clockP, badC, F1.out, d1, d2])
        go_wp2_with (first
          | (go_at_call 80; (with_reducible refine (C3.out _ S1.out).mono ?_); rintro e w3 ⟨rfl, q, rfl⟩; have S3 := Lib.hid (S1.out.drewN q); have O3 := Lib.hid (O1.out.drewN q); have L3 := Lib.hid (L1.out.drewN q))
          | (go_at_call 45; (with_reducible refine (C4.out _ S3.out).mono ?_); rintro e wz ⟨p, rfl, hX, hb⟩; have HXZ := Lib.hid hX; have HSZ := Lib.hid (S3.out.call hb); have HOZ := Lib.hid (O3.out.then hb HBW.out); have HLZ := Lib.hid O3.out.1.size; clear hX hb))
        go_ret2
        exact ⟨_, _, rfl, by rw [HP.out]; exact fun h => absurd h five_ne, by rw [HP.out]; exact .inr (.inr ⟨five_ne, Int.natCast_nonneg _, HXZ.out.mono HLZ.out⟩), by rw [HP.out]; exact HSZ.out, HOZ.out⟩
      · have r3b : ((R3 : Int) == 0) = false := by simp; omega
        have r3c : (R3 == 0) = false := by simp; omega
        have r3d : (run_ s (dgK s (k) 2) == 0) = false := by rw [hR3]; exact r3c
        go_wp2_with (first
          | (go_at_call 80; (with_reducible refine (C3.out _ S1.out).mono ?_); rintro e w3 ⟨rfl, q, rfl⟩; have S3 := Lib.hid (S1.out.drewN q); have O3 := Lib.hid (O1.out.drewN q); have L3 := Lib.hid (L1.out.drewN q)))
        try (rw [rounds_succ]; go_wp2_with fail)
        rcases bool_or (dgB s (dgK s (k) 2) 2) with h5 | h5
        · have C5 : Hid (∀ w0, ScanAt b s ((dgK s (k) 2 : Nat) : Int) w0 → Calls Tryz.prog 78 #[.pointer (some ⟨b, 0, none⟩), .int .i64 2] w0 fun e w' => e = .returned (.tuple #[.int .i64 ((dgN s (dgK s (k) 2) 2 : Nat) : Int), .bool false]) ∧ ScanAt b s ((dgK s (dgK s (k) 2) 2 : Nat) : Int) w' ∧ Only b w0 w') := Lib.hid fun w0 h => by
              have q := digits_any b s (dgK s (k) 2) 2 2 rfl w0 h (dgK_le hk) hs (by omega)
              rw [h5] at q
              exact q
          have hx5 := dgN_lt s (dgK s (k) 2) 2
          have F5 := Lib.hid h5; clear h5
          have C6 : Hid (∀ w0, ScanAt b s ((dgK s (dgK s (k) 2) 2 : Nat) : Int) w0 → Calls Tryz.prog 45 #[.pointer (some ⟨b, 0, none⟩)] w0 fun e w' => ∃ p : Nat, e = .returned (.iface 105 (.pointer (some ⟨p, 0, none⟩))) ∧ AtBox w0.heap.size 5 ((dgK s (dgK s (k) 2) 2 : Nat) : Int) (.iface 105 (.pointer (some ⟨p, 0, none⟩))) w' ∧ Below w0.heap.size w0 w') := Lib.hid fun w0 h => bad_any b s (dgK s (dgK s (k) 2) 2) w0 h
          have HP : Hid (clockP s false k = ⟨0, 5, ((dgK s (dgK s (k) 2) 2 : Nat) : Int), dgK s (dgK s (k) 2) 2⟩) := Lib.hid (by simp [clockP, badC, F1.out, F5.out])
          go_wp2_with (first
            | (go_at_call 78; (with_reducible refine (C5.out _ S3.out).mono ?_); rintro e w5 ⟨rfl, hS, hO⟩; have S5 := Lib.hid hS; have O5 := Lib.hid (O3.out.trans hO); clear hS hO)
            | (go_at_call 45; (with_reducible refine (C6.out _ S5.out).mono ?_); rintro e wz ⟨p, rfl, hX, hb⟩; have HXZ := Lib.hid hX; have HSZ := Lib.hid (S5.out.call hb); have HOZ := Lib.hid (O5.out.then hb HBW.out); have HLZ := Lib.hid O5.out.1.size; clear hX hb))
          go_ret2
          exact ⟨_, _, rfl, by rw [HP.out]; exact fun h => absurd h five_ne, by rw [HP.out]; exact .inr (.inr ⟨five_ne, Int.natCast_nonneg _, HXZ.out.mono HLZ.out⟩), by rw [HP.out]; exact HSZ.out, HOZ.out⟩
        · have C5 : Hid (∀ w0, ScanAt b s ((dgK s (k) 2 : Nat) : Int) w0 → Calls Tryz.prog 78 #[.pointer (some ⟨b, 0, none⟩), .int .i64 2] w0 fun e w' => e = .returned (.tuple #[.int .i64 ((dgN s (dgK s (k) 2) 2 : Nat) : Int), .bool true]) ∧ ScanAt b s ((dgK s (dgK s (k) 2) 2 : Nat) : Int) w' ∧ Only b w0 w') := Lib.hid fun w0 h => by
              have q := digits_any b s (dgK s (k) 2) 2 2 rfl w0 h (dgK_le hk) hs (by omega)
              rw [h5] at q
              exact q
          have hx5 := dgN_lt s (dgK s (k) 2) 2
          have F5 := Lib.hid h5; clear h5
          obtain ⟨H1, hH1⟩ : ∃ H, dgN s (dgK s (k) 2) 2 = H := ⟨_, rfl⟩
          rw [hH1] at C5
          have hl1 : H1 < 100 := by rw [← hH1]; exact dgN_lt s _ 2
          go_wp2_with (first
            | (go_at_call 78; (with_reducible refine (C5.out _ S3.out).mono ?_); rintro e w5 ⟨rfl, hS, hO⟩; have S5 := Lib.hid (ScanAt.off hS ⟨w.heap.size, 1, none⟩ (Nat.ne_of_gt HBL.out) (.int .i64 (H1 : Int))); have O5 := Lib.hid ((O3.out.trans hO).above HBL.out 1 (.int .i64 (H1 : Int))); have hL := L3.out.only hO (by have := HBL.out; omega); have L5 := Lib.hid (hL.put1 (H1 : Int)); obtain ⟨-, ⟨c0, f0⟩, ⟨c1, f1⟩, ⟨c2, f2⟩⟩ := hL; clear hS hO))
          try (rw [rounds_succ]; go_wp2_with fail)
          have C7 : Hid (∀ w0, ScanAt b s ((dgK s (dgK s (k) 2) 2 : Nat) : Int) w0 → Calls Tryz.prog 80 #[.pointer (some ⟨b, 0, none⟩)] w0 fun e w' => e = .returned (.int .i64 ((run_ s (dgK s (dgK s (k) 2) 2) : Nat) : Int)) ∧ ∃ q, w' = w0.drewN q) := Lib.hid fun w0 h => crun_any b s (dgK s (dgK s (k) 2) 2) w0 h (dgK_le (dgK_le hk)) hs
          obtain ⟨R7, hR7⟩ : ∃ R, run_ s (dgK s (dgK s (k) 2) 2) = R := ⟨_, rfl⟩; rw [hR7] at C7
          by_cases r7 : R7 = 0
          · subst r7
            rcases (show (H0 = 24 ∧ H1 = 0) ∨ (H0 = 24 ∧ H1 ≠ 0) ∨ (H0 ≠ 24 ∧ 23 < H0) ∨ (¬ 23 < H0 ∧ 59 < H1) ∨ (¬ 23 < H0 ∧ ¬ 59 < H1) by omega) with ⟨g0, g1⟩ | ⟨g0, g1⟩ | ⟨g0, g1⟩ | ⟨g0, g1⟩ | ⟨g0, g1⟩
            · skip
              have e0 : ((H0 : Int) == 24) = true := (by first | (simp; done) | (simp; omega))
              have e0n : (H0 == 24) = true := (by first | (simp; done) | (simp; omega))
              have e1 : ((H1 : Int) == 0) = true := (by first | (simp; done) | (simp; omega))
              have e1n : (H1 == 0) = true := (by first | (simp; done) | (simp; omega))
              have HP : Hid (clockP s false k = ⟨86400, 0, -1, dgK s (dgK s (k) 2) 2⟩) := Lib.hid (by simp [clockP, ckEnd, F1.out, hH0, F5.out, hH1, hR7, g0, g1] <;> (intros; omega))
              clear g0 g1
              go_wp2_with (first
                | (go_at_call 80; (with_reducible refine (C7.out _ S5.out).mono ?_); rintro e w7 ⟨rfl, q, rfl⟩; have S7 := Lib.hid (S5.out.drewN q); have O7 := Lib.hid (O5.out.drewN q); have L7 := Lib.hid (L5.out.drewN q)))
              try (rw [rounds_succ]; go_wp2_with fail)
              go_ret2
              exact ⟨_, _, rfl, by rw [HP.out]; exact fun _ => by first | rfl | (dsimp only; omega), by rw [HP.out]; exact .inl ⟨rfl, rfl, rfl⟩, by rw [HP.out]; exact S7.out, O7.out⟩
            · skip
              have e0 : ((H0 : Int) == 24) = true := (by first | (simp; done) | (simp; omega))
              have e0n : (H0 == 24) = true := (by first | (simp; done) | (simp; omega))
              have e1 : ((H1 : Int) == 0) = false := (by first | (simp; done) | (simp; omega))
              have e1n : (H1 == 0) = false := (by first | (simp; done) | (simp; omega))
              have l0 : decide (23 < (H0 : Int)) = true := (by first | (simp; done) | (simp; omega))
              have l0n : decide (23 < H0) = true := (by first | (simp; done) | (simp; omega))
              have HP : Hid (clockP s false k = ⟨0, 3, -1, dgK s (dgK s (k) 2) 2⟩) := Lib.hid (by simp [clockP, ckEnd, F1.out, hH0, F5.out, hH1, hR7, g0, g1] <;> (intros; omega))
              clear g0 g1
              go_wp2_with (first
                | (go_at_call 80; (with_reducible refine (C7.out _ S5.out).mono ?_); rintro e w7 ⟨rfl, q, rfl⟩; have S7 := Lib.hid (S5.out.drewN q); have O7 := Lib.hid (O5.out.drewN q); have L7 := Lib.hid (L5.out.drewN q)))
              try (rw [rounds_succ]; go_wp2_with fail)
              go_ret2
              exact ⟨_, _, rfl, by rw [HP.out]; exact fun h => absurd h three_ne, by rw [HP.out]; exact .inr (.inl ⟨three_ne, rfl, rfl⟩), by rw [HP.out]; exact S7.out, O7.out⟩
            · skip
              have e0 : ((H0 : Int) == 24) = false := (by first | (simp; done) | (simp; omega))
              have e0n : (H0 == 24) = false := (by first | (simp; done) | (simp; omega))
              have l0 : decide (23 < (H0 : Int)) = true := (by first | (simp; done) | (simp; omega))
              have l0n : decide (23 < H0) = true := (by first | (simp; done) | (simp; omega))
              have HP : Hid (clockP s false k = ⟨0, 3, -1, dgK s (dgK s (k) 2) 2⟩) := Lib.hid (by simp [clockP, ckEnd, F1.out, hH0, F5.out, hH1, hR7, g0, g1] <;> (intros; omega))
              clear g0 g1
              go_wp2_with (first
                | (go_at_call 80; (with_reducible refine (C7.out _ S5.out).mono ?_); rintro e w7 ⟨rfl, q, rfl⟩; have S7 := Lib.hid (S5.out.drewN q); have O7 := Lib.hid (O5.out.drewN q); have L7 := Lib.hid (L5.out.drewN q)))
              try (rw [rounds_succ]; go_wp2_with fail)
              go_ret2
              exact ⟨_, _, rfl, by rw [HP.out]; exact fun h => absurd h three_ne, by rw [HP.out]; exact .inr (.inl ⟨three_ne, rfl, rfl⟩), by rw [HP.out]; exact S7.out, O7.out⟩
            · skip
              have e0 : ((H0 : Int) == 24) = false := (by first | (simp; done) | (simp; omega))
              have e0n : (H0 == 24) = false := (by first | (simp; done) | (simp; omega))
              have l0 : decide (23 < (H0 : Int)) = false := (by first | (simp; done) | (simp; omega))
              have l0n : decide (23 < H0) = false := (by first | (simp; done) | (simp; omega))
              have l1 : decide (59 < (H1 : Int)) = true := (by first | (simp; done) | (simp; omega))
              have l1n : decide (59 < H1) = true := (by first | (simp; done) | (simp; omega))
              have HP : Hid (clockP s false k = ⟨0, 3, -1, dgK s (dgK s (k) 2) 2⟩) := Lib.hid (by simp [clockP, ckEnd, F1.out, hH0, F5.out, hH1, hR7, g0, g1] <;> (intros; omega))
              clear g0 g1
              go_wp2_with (first
                | (go_at_call 80; (with_reducible refine (C7.out _ S5.out).mono ?_); rintro e w7 ⟨rfl, q, rfl⟩; have S7 := Lib.hid (S5.out.drewN q); have O7 := Lib.hid (O5.out.drewN q); have L7 := Lib.hid (L5.out.drewN q)))
              try (rw [rounds_succ]; go_wp2_with fail)
              go_ret2
              exact ⟨_, _, rfl, by rw [HP.out]; exact fun h => absurd h three_ne, by rw [HP.out]; exact .inr (.inl ⟨three_ne, rfl, rfl⟩), by rw [HP.out]; exact S7.out, O7.out⟩
            · skip
              have e0 : ((H0 : Int) == 24) = false := (by first | (simp; done) | (simp; omega))
              have e0n : (H0 == 24) = false := (by first | (simp; done) | (simp; omega))
              have l0 : decide (23 < (H0 : Int)) = false := (by first | (simp; done) | (simp; omega))
              have l0n : decide (23 < H0) = false := (by first | (simp; done) | (simp; omega))
              have l1 : decide (59 < (H1 : Int)) = false := (by first | (simp; done) | (simp; omega))
              have l1n : decide (59 < H1) = false := (by first | (simp; done) | (simp; omega))
              have HP : Hid (clockP s false k = ⟨((H0 : Int) * 60 + (H1 : Int)) * 60 + 0, 0, -1, dgK s (dgK s (k) 2) 2⟩) := Lib.hid (by simp [clockP, ckEnd, F1.out, hH0, F5.out, hH1, hR7, g0, g1] <;> (intros; omega))
              clear g0 g1
              go_wp2_with (first
                | (go_at_call 80; (with_reducible refine (C7.out _ S5.out).mono ?_); rintro e w7 ⟨rfl, q, rfl⟩; have S7 := Lib.hid (S5.out.drewN q); have O7 := Lib.hid (O5.out.drewN q); have L7 := Lib.hid (L5.out.drewN q)))
              try (rw [rounds_succ]; go_wp2_with fail)
              go_ret2
              exact ⟨_, _, rfl, by rw [HP.out]; exact fun _ => by first | rfl | (dsimp only; omega), by rw [HP.out]; exact .inl ⟨rfl, rfl, rfl⟩, by rw [HP.out]; exact S7.out, O7.out⟩
          · have r7b : ((R7 : Int) == 0) = false := by simp; omega
            have r7c : (R7 == 0) = false := by simp; omega
            have r7d : (run_ s (dgK s (dgK s (k) 2) 2) == 0) = false := by rw [hR7]; exact r7c
            go_wp2_with (first
              | (go_at_call 80; (with_reducible refine (C7.out _ S5.out).mono ?_); rintro e w7 ⟨rfl, q, rfl⟩; have S7 := Lib.hid (S5.out.drewN q); have O7 := Lib.hid (O5.out.drewN q); have L7 := Lib.hid (L5.out.drewN q)))
            try (rw [rounds_succ]; go_wp2_with fail)
            rcases bool_or (dgB s (dgK s (dgK s (k) 2) 2) 2) with h8 | h8
            · have C8 : Hid (∀ w0, ScanAt b s ((dgK s (dgK s (k) 2) 2 : Nat) : Int) w0 → Calls Tryz.prog 78 #[.pointer (some ⟨b, 0, none⟩), .int .i64 2] w0 fun e w' => e = .returned (.tuple #[.int .i64 ((dgN s (dgK s (dgK s (k) 2) 2) 2 : Nat) : Int), .bool false]) ∧ ScanAt b s ((dgK s (dgK s (dgK s (k) 2) 2) 2 : Nat) : Int) w' ∧ Only b w0 w') := Lib.hid fun w0 h => by
                  have q := digits_any b s (dgK s (dgK s (k) 2) 2) 2 2 rfl w0 h (dgK_le (dgK_le hk)) hs (by omega)
                  rw [h8] at q
                  exact q
              have hx8 := dgN_lt s (dgK s (dgK s (k) 2) 2) 2
              have F8 := Lib.hid h8; clear h8
              have C9 : Hid (∀ w0, ScanAt b s ((dgK s (dgK s (dgK s (k) 2) 2) 2 : Nat) : Int) w0 → Calls Tryz.prog 45 #[.pointer (some ⟨b, 0, none⟩)] w0 fun e w' => ∃ p : Nat, e = .returned (.iface 105 (.pointer (some ⟨p, 0, none⟩))) ∧ AtBox w0.heap.size 5 ((dgK s (dgK s (dgK s (k) 2) 2) 2 : Nat) : Int) (.iface 105 (.pointer (some ⟨p, 0, none⟩))) w' ∧ Below w0.heap.size w0 w') := Lib.hid fun w0 h => bad_any b s (dgK s (dgK s (dgK s (k) 2) 2) 2) w0 h
              have HP : Hid (clockP s false k = ⟨0, 5, ((dgK s (dgK s (dgK s (k) 2) 2) 2 : Nat) : Int), dgK s (dgK s (dgK s (k) 2) 2) 2⟩) := Lib.hid (by simp [clockP, badC, F1.out, F5.out, r7d, F8.out])
              go_wp2_with (first
                | (go_at_call 78; (with_reducible refine (C8.out _ S7.out).mono ?_); rintro e w8 ⟨rfl, hS, hO⟩; have S8 := Lib.hid hS; have O8 := Lib.hid (O7.out.trans hO); clear hS hO)
                | (go_at_call 45; (with_reducible refine (C9.out _ S8.out).mono ?_); rintro e wz ⟨p, rfl, hX, hb⟩; have HXZ := Lib.hid hX; have HSZ := Lib.hid (S8.out.call hb); have HOZ := Lib.hid (O8.out.then hb HBW.out); have HLZ := Lib.hid O8.out.1.size; clear hX hb))
              go_ret2
              exact ⟨_, _, rfl, by rw [HP.out]; exact fun h => absurd h five_ne, by rw [HP.out]; exact .inr (.inr ⟨five_ne, Int.natCast_nonneg _, HXZ.out.mono HLZ.out⟩), by rw [HP.out]; exact HSZ.out, HOZ.out⟩
            · have C8 : Hid (∀ w0, ScanAt b s ((dgK s (dgK s (k) 2) 2 : Nat) : Int) w0 → Calls Tryz.prog 78 #[.pointer (some ⟨b, 0, none⟩), .int .i64 2] w0 fun e w' => e = .returned (.tuple #[.int .i64 ((dgN s (dgK s (dgK s (k) 2) 2) 2 : Nat) : Int), .bool true]) ∧ ScanAt b s ((dgK s (dgK s (dgK s (k) 2) 2) 2 : Nat) : Int) w' ∧ Only b w0 w') := Lib.hid fun w0 h => by
                  have q := digits_any b s (dgK s (dgK s (k) 2) 2) 2 2 rfl w0 h (dgK_le (dgK_le hk)) hs (by omega)
                  rw [h8] at q
                  exact q
              have hx8 := dgN_lt s (dgK s (dgK s (k) 2) 2) 2
              have F8 := Lib.hid h8; clear h8
              obtain ⟨H2, hH2⟩ : ∃ H, dgN s (dgK s (dgK s (k) 2) 2) 2 = H := ⟨_, rfl⟩
              rw [hH2] at C8
              have hl2 : H2 < 100 := by rw [← hH2]; exact dgN_lt s _ 2
              rcases (show (H0 = 24 ∧ H1 = 0 ∧ H2 = 0) ∨ (H0 = 24 ∧ H1 ≠ 0) ∨ (H0 = 24 ∧ H1 = 0 ∧ H2 ≠ 0) ∨ (H0 ≠ 24 ∧ 23 < H0) ∨ (¬ 23 < H0 ∧ 59 < H1) ∨ (¬ 23 < H0 ∧ ¬ 59 < H1 ∧ 59 < H2) ∨ (¬ 23 < H0 ∧ ¬ 59 < H1 ∧ ¬ 59 < H2) by omega) with ⟨g0, g1, g2⟩ | ⟨g0, g1⟩ | ⟨g0, g1, g2⟩ | ⟨g0, g1⟩ | ⟨g0, g1⟩ | ⟨g0, g1, g2⟩ | ⟨g0, g1, g2⟩
              · skip
                have e0 : ((H0 : Int) == 24) = true := (by first | (simp; done) | (simp; omega))
                have e0n : (H0 == 24) = true := (by first | (simp; done) | (simp; omega))
                have e1 : ((H1 : Int) == 0) = true := (by first | (simp; done) | (simp; omega))
                have e1n : (H1 == 0) = true := (by first | (simp; done) | (simp; omega))
                have e2 : ((H2 : Int) == 0) = true := (by first | (simp; done) | (simp; omega))
                have e2n : (H2 == 0) = true := (by first | (simp; done) | (simp; omega))
                have HP : Hid (clockP s false k = ⟨86400, 0, -1, dgK s (dgK s (dgK s (k) 2) 2) 2⟩) := Lib.hid (by simp [clockP, ckEnd, F1.out, hH0, F5.out, hH1, r7d, F8.out, hH2, g0, g1, g2] <;> (intros; omega))
                clear g0 g1 g2
                go_wp2_with (first
                  | (go_at_call 78; (with_reducible refine (C8.out _ S7.out).mono ?_); rintro e w8 ⟨rfl, hS, hO⟩; have S8 := Lib.hid (ScanAt.off hS ⟨w.heap.size, 2, none⟩ (Nat.ne_of_gt HBL.out) (.int .i64 (H2 : Int))); have O8 := Lib.hid ((O7.out.trans hO).above HBL.out 2 (.int .i64 (H2 : Int))); have hL := L7.out.only hO (by have := HBL.out; omega); have L8 := Lib.hid (hL.put2 (H2 : Int)); obtain ⟨-, ⟨c0, f0⟩, ⟨c1, f1⟩, ⟨c2, f2⟩⟩ := hL; clear hS hO))
                try (rw [rounds_succ]; go_wp2_with fail)
                go_ret2
                exact ⟨_, _, rfl, by rw [HP.out]; exact fun _ => by first | rfl | (dsimp only; omega), by rw [HP.out]; exact .inl ⟨rfl, rfl, rfl⟩, by rw [HP.out]; exact S8.out, O8.out⟩
              · skip
                have e0 : ((H0 : Int) == 24) = true := (by first | (simp; done) | (simp; omega))
                have e0n : (H0 == 24) = true := (by first | (simp; done) | (simp; omega))
                have e1 : ((H1 : Int) == 0) = false := (by first | (simp; done) | (simp; omega))
                have e1n : (H1 == 0) = false := (by first | (simp; done) | (simp; omega))
                have l0 : decide (23 < (H0 : Int)) = true := (by first | (simp; done) | (simp; omega))
                have l0n : decide (23 < H0) = true := (by first | (simp; done) | (simp; omega))
                have HP : Hid (clockP s false k = ⟨0, 3, -1, dgK s (dgK s (dgK s (k) 2) 2) 2⟩) := Lib.hid (by simp [clockP, ckEnd, F1.out, hH0, F5.out, hH1, r7d, F8.out, hH2, g0, g1] <;> (intros; omega))
                clear g0 g1
                go_wp2_with (first
                  | (go_at_call 78; (with_reducible refine (C8.out _ S7.out).mono ?_); rintro e w8 ⟨rfl, hS, hO⟩; have S8 := Lib.hid (ScanAt.off hS ⟨w.heap.size, 2, none⟩ (Nat.ne_of_gt HBL.out) (.int .i64 (H2 : Int))); have O8 := Lib.hid ((O7.out.trans hO).above HBL.out 2 (.int .i64 (H2 : Int))); have hL := L7.out.only hO (by have := HBL.out; omega); have L8 := Lib.hid (hL.put2 (H2 : Int)); obtain ⟨-, ⟨c0, f0⟩, ⟨c1, f1⟩, ⟨c2, f2⟩⟩ := hL; clear hS hO))
                try (rw [rounds_succ]; go_wp2_with fail)
                go_ret2
                exact ⟨_, _, rfl, by rw [HP.out]; exact fun h => absurd h three_ne, by rw [HP.out]; exact .inr (.inl ⟨three_ne, rfl, rfl⟩), by rw [HP.out]; exact S8.out, O8.out⟩
              · skip
                have e0 : ((H0 : Int) == 24) = true := (by first | (simp; done) | (simp; omega))
                have e0n : (H0 == 24) = true := (by first | (simp; done) | (simp; omega))
                have e1 : ((H1 : Int) == 0) = true := (by first | (simp; done) | (simp; omega))
                have e1n : (H1 == 0) = true := (by first | (simp; done) | (simp; omega))
                have e2 : ((H2 : Int) == 0) = false := (by first | (simp; done) | (simp; omega))
                have e2n : (H2 == 0) = false := (by first | (simp; done) | (simp; omega))
                have l0 : decide (23 < (H0 : Int)) = true := (by first | (simp; done) | (simp; omega))
                have l0n : decide (23 < H0) = true := (by first | (simp; done) | (simp; omega))
                have HP : Hid (clockP s false k = ⟨0, 3, -1, dgK s (dgK s (dgK s (k) 2) 2) 2⟩) := Lib.hid (by simp [clockP, ckEnd, F1.out, hH0, F5.out, hH1, r7d, F8.out, hH2, g0, g1, g2] <;> (intros; omega))
                clear g0 g1 g2
                go_wp2_with (first
                  | (go_at_call 78; (with_reducible refine (C8.out _ S7.out).mono ?_); rintro e w8 ⟨rfl, hS, hO⟩; have S8 := Lib.hid (ScanAt.off hS ⟨w.heap.size, 2, none⟩ (Nat.ne_of_gt HBL.out) (.int .i64 (H2 : Int))); have O8 := Lib.hid ((O7.out.trans hO).above HBL.out 2 (.int .i64 (H2 : Int))); have hL := L7.out.only hO (by have := HBL.out; omega); have L8 := Lib.hid (hL.put2 (H2 : Int)); obtain ⟨-, ⟨c0, f0⟩, ⟨c1, f1⟩, ⟨c2, f2⟩⟩ := hL; clear hS hO))
                try (rw [rounds_succ]; go_wp2_with fail)
                go_ret2
                exact ⟨_, _, rfl, by rw [HP.out]; exact fun h => absurd h three_ne, by rw [HP.out]; exact .inr (.inl ⟨three_ne, rfl, rfl⟩), by rw [HP.out]; exact S8.out, O8.out⟩
              · skip
                have e0 : ((H0 : Int) == 24) = false := (by first | (simp; done) | (simp; omega))
                have e0n : (H0 == 24) = false := (by first | (simp; done) | (simp; omega))
                have l0 : decide (23 < (H0 : Int)) = true := (by first | (simp; done) | (simp; omega))
                have l0n : decide (23 < H0) = true := (by first | (simp; done) | (simp; omega))
                have HP : Hid (clockP s false k = ⟨0, 3, -1, dgK s (dgK s (dgK s (k) 2) 2) 2⟩) := Lib.hid (by simp [clockP, ckEnd, F1.out, hH0, F5.out, hH1, r7d, F8.out, hH2, g0, g1] <;> (intros; omega))
                clear g0 g1
                go_wp2_with (first
                  | (go_at_call 78; (with_reducible refine (C8.out _ S7.out).mono ?_); rintro e w8 ⟨rfl, hS, hO⟩; have S8 := Lib.hid (ScanAt.off hS ⟨w.heap.size, 2, none⟩ (Nat.ne_of_gt HBL.out) (.int .i64 (H2 : Int))); have O8 := Lib.hid ((O7.out.trans hO).above HBL.out 2 (.int .i64 (H2 : Int))); have hL := L7.out.only hO (by have := HBL.out; omega); have L8 := Lib.hid (hL.put2 (H2 : Int)); obtain ⟨-, ⟨c0, f0⟩, ⟨c1, f1⟩, ⟨c2, f2⟩⟩ := hL; clear hS hO))
                try (rw [rounds_succ]; go_wp2_with fail)
                go_ret2
                exact ⟨_, _, rfl, by rw [HP.out]; exact fun h => absurd h three_ne, by rw [HP.out]; exact .inr (.inl ⟨three_ne, rfl, rfl⟩), by rw [HP.out]; exact S8.out, O8.out⟩
              · skip
                have e0 : ((H0 : Int) == 24) = false := (by first | (simp; done) | (simp; omega))
                have e0n : (H0 == 24) = false := (by first | (simp; done) | (simp; omega))
                have l0 : decide (23 < (H0 : Int)) = false := (by first | (simp; done) | (simp; omega))
                have l0n : decide (23 < H0) = false := (by first | (simp; done) | (simp; omega))
                have l1 : decide (59 < (H1 : Int)) = true := (by first | (simp; done) | (simp; omega))
                have l1n : decide (59 < H1) = true := (by first | (simp; done) | (simp; omega))
                have HP : Hid (clockP s false k = ⟨0, 3, -1, dgK s (dgK s (dgK s (k) 2) 2) 2⟩) := Lib.hid (by simp [clockP, ckEnd, F1.out, hH0, F5.out, hH1, r7d, F8.out, hH2, g0, g1] <;> (intros; omega))
                clear g0 g1
                go_wp2_with (first
                  | (go_at_call 78; (with_reducible refine (C8.out _ S7.out).mono ?_); rintro e w8 ⟨rfl, hS, hO⟩; have S8 := Lib.hid (ScanAt.off hS ⟨w.heap.size, 2, none⟩ (Nat.ne_of_gt HBL.out) (.int .i64 (H2 : Int))); have O8 := Lib.hid ((O7.out.trans hO).above HBL.out 2 (.int .i64 (H2 : Int))); have hL := L7.out.only hO (by have := HBL.out; omega); have L8 := Lib.hid (hL.put2 (H2 : Int)); obtain ⟨-, ⟨c0, f0⟩, ⟨c1, f1⟩, ⟨c2, f2⟩⟩ := hL; clear hS hO))
                try (rw [rounds_succ]; go_wp2_with fail)
                go_ret2
                exact ⟨_, _, rfl, by rw [HP.out]; exact fun h => absurd h three_ne, by rw [HP.out]; exact .inr (.inl ⟨three_ne, rfl, rfl⟩), by rw [HP.out]; exact S8.out, O8.out⟩
              · skip
                have e0 : ((H0 : Int) == 24) = false := (by first | (simp; done) | (simp; omega))
                have e0n : (H0 == 24) = false := (by first | (simp; done) | (simp; omega))
                have l0 : decide (23 < (H0 : Int)) = false := (by first | (simp; done) | (simp; omega))
                have l0n : decide (23 < H0) = false := (by first | (simp; done) | (simp; omega))
                have l1 : decide (59 < (H1 : Int)) = false := (by first | (simp; done) | (simp; omega))
                have l1n : decide (59 < H1) = false := (by first | (simp; done) | (simp; omega))
                have l2 : decide (59 < (H2 : Int)) = true := (by first | (simp; done) | (simp; omega))
                have l2n : decide (59 < H2) = true := (by first | (simp; done) | (simp; omega))
                have HP : Hid (clockP s false k = ⟨0, 3, -1, dgK s (dgK s (dgK s (k) 2) 2) 2⟩) := Lib.hid (by simp [clockP, ckEnd, F1.out, hH0, F5.out, hH1, r7d, F8.out, hH2, g0, g1, g2] <;> (intros; omega))
                clear g0 g1 g2
                go_wp2_with (first
                  | (go_at_call 78; (with_reducible refine (C8.out _ S7.out).mono ?_); rintro e w8 ⟨rfl, hS, hO⟩; have S8 := Lib.hid (ScanAt.off hS ⟨w.heap.size, 2, none⟩ (Nat.ne_of_gt HBL.out) (.int .i64 (H2 : Int))); have O8 := Lib.hid ((O7.out.trans hO).above HBL.out 2 (.int .i64 (H2 : Int))); have hL := L7.out.only hO (by have := HBL.out; omega); have L8 := Lib.hid (hL.put2 (H2 : Int)); obtain ⟨-, ⟨c0, f0⟩, ⟨c1, f1⟩, ⟨c2, f2⟩⟩ := hL; clear hS hO))
                try (rw [rounds_succ]; go_wp2_with fail)
                go_ret2
                exact ⟨_, _, rfl, by rw [HP.out]; exact fun h => absurd h three_ne, by rw [HP.out]; exact .inr (.inl ⟨three_ne, rfl, rfl⟩), by rw [HP.out]; exact S8.out, O8.out⟩
              · skip
                have e0 : ((H0 : Int) == 24) = false := (by first | (simp; done) | (simp; omega))
                have e0n : (H0 == 24) = false := (by first | (simp; done) | (simp; omega))
                have l0 : decide (23 < (H0 : Int)) = false := (by first | (simp; done) | (simp; omega))
                have l0n : decide (23 < H0) = false := (by first | (simp; done) | (simp; omega))
                have l1 : decide (59 < (H1 : Int)) = false := (by first | (simp; done) | (simp; omega))
                have l1n : decide (59 < H1) = false := (by first | (simp; done) | (simp; omega))
                have l2 : decide (59 < (H2 : Int)) = false := (by first | (simp; done) | (simp; omega))
                have l2n : decide (59 < H2) = false := (by first | (simp; done) | (simp; omega))
                have HP : Hid (clockP s false k = ⟨((H0 : Int) * 60 + (H1 : Int)) * 60 + (H2 : Int), 0, -1, dgK s (dgK s (dgK s (k) 2) 2) 2⟩) := Lib.hid (by simp [clockP, ckEnd, F1.out, hH0, F5.out, hH1, r7d, F8.out, hH2, g0, g1, g2] <;> (intros; omega))
                clear g0 g1 g2
                go_wp2_with (first
                  | (go_at_call 78; (with_reducible refine (C8.out _ S7.out).mono ?_); rintro e w8 ⟨rfl, hS, hO⟩; have S8 := Lib.hid (ScanAt.off hS ⟨w.heap.size, 2, none⟩ (Nat.ne_of_gt HBL.out) (.int .i64 (H2 : Int))); have O8 := Lib.hid ((O7.out.trans hO).above HBL.out 2 (.int .i64 (H2 : Int))); have hL := L7.out.only hO (by have := HBL.out; omega); have L8 := Lib.hid (hL.put2 (H2 : Int)); obtain ⟨-, ⟨c0, f0⟩, ⟨c1, f1⟩, ⟨c2, f2⟩⟩ := hL; clear hS hO))
                try (rw [rounds_succ]; go_wp2_with fail)
                go_ret2
                exact ⟨_, _, rfl, by rw [HP.out]; exact fun _ => by first | rfl | (dsimp only; omega), by rw [HP.out]; exact .inl ⟨rfl, rfl, rfl⟩, by rw [HP.out]; exact S8.out, O8.out⟩
    · skip
      go_wp2_with (first
        | (go_at_call 78; (with_reducible refine (C1.out _ S0.out).mono ?_); rintro e w1 ⟨rfl, hS, hO⟩; have S1 := Lib.hid (ScanAt.off hS ⟨w.heap.size, 0, none⟩ (Nat.ne_of_gt HBL.out) (.int .i64 (H0 : Int))); have O1 := Lib.hid ((O0.out.trans hO).above HBL.out 0 (.int .i64 (H0 : Int))); have hL := L0.out.only hO (by have := HBL.out; omega); have L1 := Lib.hid (hL.put0 (H0 : Int)); obtain ⟨-, ⟨c0, f0⟩, ⟨c1, f1⟩, ⟨c2, f2⟩⟩ := hL; clear hS hO))
      try (rw [rounds_succ]; go_wp2_with fail)
      rcases bool_or (isB s (dgK s (k) 2) 58) with h10 | h10
      · have C10 : Hid (∀ w0, ScanAt b s ((dgK s (k) 2 : Nat) : Int) w0 → Calls Tryz.prog 42 #[.pointer (some ⟨b, 0, none⟩), .int .u8 58] w0 fun e w' => e = .returned (.bool false) ∧ ScanAt b s ((dgK s (k) 2 : Nat) : Int) w' ∧ Only b w0 w') := Lib.hid fun w0 h => by
            have q := cis_any b s (dgK s (k) 2) 58 w0 h hs
            rw [h10, isK_no h10] at q
            exact q
        have F10 := Lib.hid h10; clear h10
        have C11 : Hid (∀ w0, ScanAt b s ((dgK s (k) 2 : Nat) : Int) w0 → Calls Tryz.prog 45 #[.pointer (some ⟨b, 0, none⟩)] w0 fun e w' => ∃ p : Nat, e = .returned (.iface 105 (.pointer (some ⟨p, 0, none⟩))) ∧ AtBox w0.heap.size 5 ((dgK s (k) 2 : Nat) : Int) (.iface 105 (.pointer (some ⟨p, 0, none⟩))) w' ∧ Below w0.heap.size w0 w') := Lib.hid fun w0 h => bad_any b s (dgK s (k) 2) w0 h
        have HP : Hid (clockP s true k = ⟨0, 5, ((dgK s (k) 2 : Nat) : Int), dgK s (k) 2⟩) := Lib.hid (by simp [clockP, badC, F1.out, F10.out])
        go_wp2_with (first
          | (go_at_call 42; (with_reducible refine (C10.out _ S1.out).mono ?_); rintro e w10 ⟨rfl, hS, hO⟩; have S10 := Lib.hid hS; have O10 := Lib.hid (O1.out.trans hO); have L10 := Lib.hid (L1.out.only hO (by have := HBL.out; omega)); obtain ⟨-, ⟨c0, f0⟩, ⟨c1, f1⟩, ⟨c2, f2⟩⟩ := L10.out; clear hS hO)
          | (go_at_call 45; (with_reducible refine (C11.out _ S10.out).mono ?_); rintro e wz ⟨p, rfl, hX, hb⟩; have HXZ := Lib.hid hX; have HSZ := Lib.hid (S10.out.call hb); have HOZ := Lib.hid (O10.out.then hb HBW.out); have HLZ := Lib.hid O10.out.1.size; clear hX hb))
        go_ret2
        exact ⟨_, _, rfl, by rw [HP.out]; exact fun h => absurd h five_ne, by rw [HP.out]; exact .inr (.inr ⟨five_ne, Int.natCast_nonneg _, HXZ.out.mono HLZ.out⟩), by rw [HP.out]; exact HSZ.out, HOZ.out⟩
      · have C10 : Hid (∀ w0, ScanAt b s ((dgK s (k) 2 : Nat) : Int) w0 → Calls Tryz.prog 42 #[.pointer (some ⟨b, 0, none⟩), .int .u8 58] w0 fun e w' => e = .returned (.bool true) ∧ ScanAt b s ((dgK s (k) 2 + 1 : Nat) : Int) w' ∧ Only b w0 w') := Lib.hid fun w0 h => by
            have q := cis_any b s (dgK s (k) 2) 58 w0 h hs
            rw [h10, isK_yes h10] at q
            exact q
        have F10 := Lib.hid h10; clear h10
        go_wp2_with (first
          | (go_at_call 42; (with_reducible refine (C10.out _ S1.out).mono ?_); rintro e w10 ⟨rfl, hS, hO⟩; have S10 := Lib.hid hS; have O10 := Lib.hid (O1.out.trans hO); have L10 := Lib.hid (L1.out.only hO (by have := HBL.out; omega)); obtain ⟨-, ⟨c0, f0⟩, ⟨c1, f1⟩, ⟨c2, f2⟩⟩ := L10.out; clear hS hO))
        try (rw [rounds_succ]; go_wp2_with fail)
        rcases bool_or (dgB s (dgK s (k) 2 + 1) 2) with h12 | h12
        · have C12 : Hid (∀ w0, ScanAt b s ((dgK s (k) 2 + 1 : Nat) : Int) w0 → Calls Tryz.prog 78 #[.pointer (some ⟨b, 0, none⟩), .int .i64 2] w0 fun e w' => e = .returned (.tuple #[.int .i64 ((dgN s (dgK s (k) 2 + 1) 2 : Nat) : Int), .bool false]) ∧ ScanAt b s ((dgK s (dgK s (k) 2 + 1) 2 : Nat) : Int) w' ∧ Only b w0 w') := Lib.hid fun w0 h => by
              have q := digits_any b s (dgK s (k) 2 + 1) 2 2 rfl w0 h (isB_lt F10.out) hs (by omega)
              rw [h12] at q
              exact q
          have hx12 := dgN_lt s (dgK s (k) 2 + 1) 2
          have F12 := Lib.hid h12; clear h12
          have C13 : Hid (∀ w0, ScanAt b s ((dgK s (dgK s (k) 2 + 1) 2 : Nat) : Int) w0 → Calls Tryz.prog 45 #[.pointer (some ⟨b, 0, none⟩)] w0 fun e w' => ∃ p : Nat, e = .returned (.iface 105 (.pointer (some ⟨p, 0, none⟩))) ∧ AtBox w0.heap.size 5 ((dgK s (dgK s (k) 2 + 1) 2 : Nat) : Int) (.iface 105 (.pointer (some ⟨p, 0, none⟩))) w' ∧ Below w0.heap.size w0 w') := Lib.hid fun w0 h => bad_any b s (dgK s (dgK s (k) 2 + 1) 2) w0 h
          have HP : Hid (clockP s true k = ⟨0, 5, ((dgK s (dgK s (k) 2 + 1) 2 : Nat) : Int), dgK s (dgK s (k) 2 + 1) 2⟩) := Lib.hid (by simp [clockP, badC, F1.out, F10.out, F12.out])
          go_wp2_with (first
            | (go_at_call 78; (with_reducible refine (C12.out _ S10.out).mono ?_); rintro e w12 ⟨rfl, hS, hO⟩; have S12 := Lib.hid hS; have O12 := Lib.hid (O10.out.trans hO); clear hS hO)
            | (go_at_call 45; (with_reducible refine (C13.out _ S12.out).mono ?_); rintro e wz ⟨p, rfl, hX, hb⟩; have HXZ := Lib.hid hX; have HSZ := Lib.hid (S12.out.call hb); have HOZ := Lib.hid (O12.out.then hb HBW.out); have HLZ := Lib.hid O12.out.1.size; clear hX hb))
          go_ret2
          exact ⟨_, _, rfl, by rw [HP.out]; exact fun h => absurd h five_ne, by rw [HP.out]; exact .inr (.inr ⟨five_ne, Int.natCast_nonneg _, HXZ.out.mono HLZ.out⟩), by rw [HP.out]; exact HSZ.out, HOZ.out⟩
        · have C12 : Hid (∀ w0, ScanAt b s ((dgK s (k) 2 + 1 : Nat) : Int) w0 → Calls Tryz.prog 78 #[.pointer (some ⟨b, 0, none⟩), .int .i64 2] w0 fun e w' => e = .returned (.tuple #[.int .i64 ((dgN s (dgK s (k) 2 + 1) 2 : Nat) : Int), .bool true]) ∧ ScanAt b s ((dgK s (dgK s (k) 2 + 1) 2 : Nat) : Int) w' ∧ Only b w0 w') := Lib.hid fun w0 h => by
              have q := digits_any b s (dgK s (k) 2 + 1) 2 2 rfl w0 h (isB_lt F10.out) hs (by omega)
              rw [h12] at q
              exact q
          have hx12 := dgN_lt s (dgK s (k) 2 + 1) 2
          have F12 := Lib.hid h12; clear h12
          obtain ⟨H1, hH1⟩ : ∃ H, dgN s (dgK s (k) 2 + 1) 2 = H := ⟨_, rfl⟩
          rw [hH1] at C12
          have hl1 : H1 < 100 := by rw [← hH1]; exact dgN_lt s _ 2
          go_wp2_with (first
            | (go_at_call 78; (with_reducible refine (C12.out _ S10.out).mono ?_); rintro e w12 ⟨rfl, hS, hO⟩; have S12 := Lib.hid (ScanAt.off hS ⟨w.heap.size, 1, none⟩ (Nat.ne_of_gt HBL.out) (.int .i64 (H1 : Int))); have O12 := Lib.hid ((O10.out.trans hO).above HBL.out 1 (.int .i64 (H1 : Int))); have hL := L10.out.only hO (by have := HBL.out; omega); have L12 := Lib.hid (hL.put1 (H1 : Int)); obtain ⟨-, ⟨c0, f0⟩, ⟨c1, f1⟩, ⟨c2, f2⟩⟩ := hL; clear hS hO))
          try (rw [rounds_succ]; go_wp2_with fail)
          rcases bool_or (isB s (dgK s (dgK s (k) 2 + 1) 2) 58) with h14 | h14
          · have C14 : Hid (∀ w0, ScanAt b s ((dgK s (dgK s (k) 2 + 1) 2 : Nat) : Int) w0 → Calls Tryz.prog 42 #[.pointer (some ⟨b, 0, none⟩), .int .u8 58] w0 fun e w' => e = .returned (.bool false) ∧ ScanAt b s ((dgK s (dgK s (k) 2 + 1) 2 : Nat) : Int) w' ∧ Only b w0 w') := Lib.hid fun w0 h => by
                have q := cis_any b s (dgK s (dgK s (k) 2 + 1) 2) 58 w0 h hs
                rw [h14, isK_no h14] at q
                exact q
            have F14 := Lib.hid h14; clear h14
            rcases (show (H0 = 24 ∧ H1 = 0) ∨ (H0 = 24 ∧ H1 ≠ 0) ∨ (H0 ≠ 24 ∧ 23 < H0) ∨ (¬ 23 < H0 ∧ 59 < H1) ∨ (¬ 23 < H0 ∧ ¬ 59 < H1) by omega) with ⟨g0, g1⟩ | ⟨g0, g1⟩ | ⟨g0, g1⟩ | ⟨g0, g1⟩ | ⟨g0, g1⟩
            · skip
              have e0 : ((H0 : Int) == 24) = true := (by first | (simp; done) | (simp; omega))
              have e0n : (H0 == 24) = true := (by first | (simp; done) | (simp; omega))
              have e1 : ((H1 : Int) == 0) = true := (by first | (simp; done) | (simp; omega))
              have e1n : (H1 == 0) = true := (by first | (simp; done) | (simp; omega))
              have HP : Hid (clockP s true k = ⟨86400, 0, -1, dgK s (dgK s (k) 2 + 1) 2⟩) := Lib.hid (by simp [clockP, ckEnd, F1.out, hH0, F10.out, F12.out, hH1, F14.out, g0, g1] <;> (intros; omega))
              clear g0 g1
              go_wp2_with (first
                | (go_at_call 42; (with_reducible refine (C14.out _ S12.out).mono ?_); rintro e w14 ⟨rfl, hS, hO⟩; have S14 := Lib.hid hS; have O14 := Lib.hid (O12.out.trans hO); have L14 := Lib.hid (L12.out.only hO (by have := HBL.out; omega)); obtain ⟨-, ⟨c0, f0⟩, ⟨c1, f1⟩, ⟨c2, f2⟩⟩ := L14.out; clear hS hO))
              try (rw [rounds_succ]; go_wp2_with fail)
              go_ret2
              exact ⟨_, _, rfl, by rw [HP.out]; exact fun _ => by first | rfl | (dsimp only; omega), by rw [HP.out]; exact .inl ⟨rfl, rfl, rfl⟩, by rw [HP.out]; exact S14.out, O14.out⟩
            · skip
              have e0 : ((H0 : Int) == 24) = true := (by first | (simp; done) | (simp; omega))
              have e0n : (H0 == 24) = true := (by first | (simp; done) | (simp; omega))
              have e1 : ((H1 : Int) == 0) = false := (by first | (simp; done) | (simp; omega))
              have e1n : (H1 == 0) = false := (by first | (simp; done) | (simp; omega))
              have l0 : decide (23 < (H0 : Int)) = true := (by first | (simp; done) | (simp; omega))
              have l0n : decide (23 < H0) = true := (by first | (simp; done) | (simp; omega))
              have HP : Hid (clockP s true k = ⟨0, 3, -1, dgK s (dgK s (k) 2 + 1) 2⟩) := Lib.hid (by simp [clockP, ckEnd, F1.out, hH0, F10.out, F12.out, hH1, F14.out, g0, g1] <;> (intros; omega))
              clear g0 g1
              go_wp2_with (first
                | (go_at_call 42; (with_reducible refine (C14.out _ S12.out).mono ?_); rintro e w14 ⟨rfl, hS, hO⟩; have S14 := Lib.hid hS; have O14 := Lib.hid (O12.out.trans hO); have L14 := Lib.hid (L12.out.only hO (by have := HBL.out; omega)); obtain ⟨-, ⟨c0, f0⟩, ⟨c1, f1⟩, ⟨c2, f2⟩⟩ := L14.out; clear hS hO))
              try (rw [rounds_succ]; go_wp2_with fail)
              go_ret2
              exact ⟨_, _, rfl, by rw [HP.out]; exact fun h => absurd h three_ne, by rw [HP.out]; exact .inr (.inl ⟨three_ne, rfl, rfl⟩), by rw [HP.out]; exact S14.out, O14.out⟩
            · skip
              have e0 : ((H0 : Int) == 24) = false := (by first | (simp; done) | (simp; omega))
              have e0n : (H0 == 24) = false := (by first | (simp; done) | (simp; omega))
              have l0 : decide (23 < (H0 : Int)) = true := (by first | (simp; done) | (simp; omega))
              have l0n : decide (23 < H0) = true := (by first | (simp; done) | (simp; omega))
              have HP : Hid (clockP s true k = ⟨0, 3, -1, dgK s (dgK s (k) 2 + 1) 2⟩) := Lib.hid (by simp [clockP, ckEnd, F1.out, hH0, F10.out, F12.out, hH1, F14.out, g0, g1] <;> (intros; omega))
              clear g0 g1
              go_wp2_with (first
                | (go_at_call 42; (with_reducible refine (C14.out _ S12.out).mono ?_); rintro e w14 ⟨rfl, hS, hO⟩; have S14 := Lib.hid hS; have O14 := Lib.hid (O12.out.trans hO); have L14 := Lib.hid (L12.out.only hO (by have := HBL.out; omega)); obtain ⟨-, ⟨c0, f0⟩, ⟨c1, f1⟩, ⟨c2, f2⟩⟩ := L14.out; clear hS hO))
              try (rw [rounds_succ]; go_wp2_with fail)
              go_ret2
              exact ⟨_, _, rfl, by rw [HP.out]; exact fun h => absurd h three_ne, by rw [HP.out]; exact .inr (.inl ⟨three_ne, rfl, rfl⟩), by rw [HP.out]; exact S14.out, O14.out⟩
            · skip
              have e0 : ((H0 : Int) == 24) = false := (by first | (simp; done) | (simp; omega))
              have e0n : (H0 == 24) = false := (by first | (simp; done) | (simp; omega))
              have l0 : decide (23 < (H0 : Int)) = false := (by first | (simp; done) | (simp; omega))
              have l0n : decide (23 < H0) = false := (by first | (simp; done) | (simp; omega))
              have l1 : decide (59 < (H1 : Int)) = true := (by first | (simp; done) | (simp; omega))
              have l1n : decide (59 < H1) = true := (by first | (simp; done) | (simp; omega))
              have HP : Hid (clockP s true k = ⟨0, 3, -1, dgK s (dgK s (k) 2 + 1) 2⟩) := Lib.hid (by simp [clockP, ckEnd, F1.out, hH0, F10.out, F12.out, hH1, F14.out, g0, g1] <;> (intros; omega))
              clear g0 g1
              go_wp2_with (first
                | (go_at_call 42; (with_reducible refine (C14.out _ S12.out).mono ?_); rintro e w14 ⟨rfl, hS, hO⟩; have S14 := Lib.hid hS; have O14 := Lib.hid (O12.out.trans hO); have L14 := Lib.hid (L12.out.only hO (by have := HBL.out; omega)); obtain ⟨-, ⟨c0, f0⟩, ⟨c1, f1⟩, ⟨c2, f2⟩⟩ := L14.out; clear hS hO))
              try (rw [rounds_succ]; go_wp2_with fail)
              go_ret2
              exact ⟨_, _, rfl, by rw [HP.out]; exact fun h => absurd h three_ne, by rw [HP.out]; exact .inr (.inl ⟨three_ne, rfl, rfl⟩), by rw [HP.out]; exact S14.out, O14.out⟩
            · skip
              have e0 : ((H0 : Int) == 24) = false := (by first | (simp; done) | (simp; omega))
              have e0n : (H0 == 24) = false := (by first | (simp; done) | (simp; omega))
              have l0 : decide (23 < (H0 : Int)) = false := (by first | (simp; done) | (simp; omega))
              have l0n : decide (23 < H0) = false := (by first | (simp; done) | (simp; omega))
              have l1 : decide (59 < (H1 : Int)) = false := (by first | (simp; done) | (simp; omega))
              have l1n : decide (59 < H1) = false := (by first | (simp; done) | (simp; omega))
              have HP : Hid (clockP s true k = ⟨((H0 : Int) * 60 + (H1 : Int)) * 60 + 0, 0, -1, dgK s (dgK s (k) 2 + 1) 2⟩) := Lib.hid (by simp [clockP, ckEnd, F1.out, hH0, F10.out, F12.out, hH1, F14.out, g0, g1] <;> (intros; omega))
              clear g0 g1
              go_wp2_with (first
                | (go_at_call 42; (with_reducible refine (C14.out _ S12.out).mono ?_); rintro e w14 ⟨rfl, hS, hO⟩; have S14 := Lib.hid hS; have O14 := Lib.hid (O12.out.trans hO); have L14 := Lib.hid (L12.out.only hO (by have := HBL.out; omega)); obtain ⟨-, ⟨c0, f0⟩, ⟨c1, f1⟩, ⟨c2, f2⟩⟩ := L14.out; clear hS hO))
              try (rw [rounds_succ]; go_wp2_with fail)
              go_ret2
              exact ⟨_, _, rfl, by rw [HP.out]; exact fun _ => by first | rfl | (dsimp only; omega), by rw [HP.out]; exact .inl ⟨rfl, rfl, rfl⟩, by rw [HP.out]; exact S14.out, O14.out⟩
          · have C14 : Hid (∀ w0, ScanAt b s ((dgK s (dgK s (k) 2 + 1) 2 : Nat) : Int) w0 → Calls Tryz.prog 42 #[.pointer (some ⟨b, 0, none⟩), .int .u8 58] w0 fun e w' => e = .returned (.bool true) ∧ ScanAt b s ((dgK s (dgK s (k) 2 + 1) 2 + 1 : Nat) : Int) w' ∧ Only b w0 w') := Lib.hid fun w0 h => by
                have q := cis_any b s (dgK s (dgK s (k) 2 + 1) 2) 58 w0 h hs
                rw [h14, isK_yes h14] at q
                exact q
            have F14 := Lib.hid h14; clear h14
            go_wp2_with (first
              | (go_at_call 42; (with_reducible refine (C14.out _ S12.out).mono ?_); rintro e w14 ⟨rfl, hS, hO⟩; have S14 := Lib.hid hS; have O14 := Lib.hid (O12.out.trans hO); have L14 := Lib.hid (L12.out.only hO (by have := HBL.out; omega)); obtain ⟨-, ⟨c0, f0⟩, ⟨c1, f1⟩, ⟨c2, f2⟩⟩ := L14.out; clear hS hO))
            try (rw [rounds_succ]; go_wp2_with fail)
            rcases bool_or (dgB s (dgK s (dgK s (k) 2 + 1) 2 + 1) 2) with h15 | h15
            · have C15 : Hid (∀ w0, ScanAt b s ((dgK s (dgK s (k) 2 + 1) 2 + 1 : Nat) : Int) w0 → Calls Tryz.prog 78 #[.pointer (some ⟨b, 0, none⟩), .int .i64 2] w0 fun e w' => e = .returned (.tuple #[.int .i64 ((dgN s (dgK s (dgK s (k) 2 + 1) 2 + 1) 2 : Nat) : Int), .bool false]) ∧ ScanAt b s ((dgK s (dgK s (dgK s (k) 2 + 1) 2 + 1) 2 : Nat) : Int) w' ∧ Only b w0 w') := Lib.hid fun w0 h => by
                  have q := digits_any b s (dgK s (dgK s (k) 2 + 1) 2 + 1) 2 2 rfl w0 h (isB_lt F14.out) hs (by omega)
                  rw [h15] at q
                  exact q
              have hx15 := dgN_lt s (dgK s (dgK s (k) 2 + 1) 2 + 1) 2
              have F15 := Lib.hid h15; clear h15
              have C16 : Hid (∀ w0, ScanAt b s ((dgK s (dgK s (dgK s (k) 2 + 1) 2 + 1) 2 : Nat) : Int) w0 → Calls Tryz.prog 45 #[.pointer (some ⟨b, 0, none⟩)] w0 fun e w' => ∃ p : Nat, e = .returned (.iface 105 (.pointer (some ⟨p, 0, none⟩))) ∧ AtBox w0.heap.size 5 ((dgK s (dgK s (dgK s (k) 2 + 1) 2 + 1) 2 : Nat) : Int) (.iface 105 (.pointer (some ⟨p, 0, none⟩))) w' ∧ Below w0.heap.size w0 w') := Lib.hid fun w0 h => bad_any b s (dgK s (dgK s (dgK s (k) 2 + 1) 2 + 1) 2) w0 h
              have HP : Hid (clockP s true k = ⟨0, 5, ((dgK s (dgK s (dgK s (k) 2 + 1) 2 + 1) 2 : Nat) : Int), dgK s (dgK s (dgK s (k) 2 + 1) 2 + 1) 2⟩) := Lib.hid (by simp [clockP, badC, F1.out, F10.out, F12.out, F14.out, F15.out])
              go_wp2_with (first
                | (go_at_call 78; (with_reducible refine (C15.out _ S14.out).mono ?_); rintro e w15 ⟨rfl, hS, hO⟩; have S15 := Lib.hid hS; have O15 := Lib.hid (O14.out.trans hO); clear hS hO)
                | (go_at_call 45; (with_reducible refine (C16.out _ S15.out).mono ?_); rintro e wz ⟨p, rfl, hX, hb⟩; have HXZ := Lib.hid hX; have HSZ := Lib.hid (S15.out.call hb); have HOZ := Lib.hid (O15.out.then hb HBW.out); have HLZ := Lib.hid O15.out.1.size; clear hX hb))
              go_ret2
              exact ⟨_, _, rfl, by rw [HP.out]; exact fun h => absurd h five_ne, by rw [HP.out]; exact .inr (.inr ⟨five_ne, Int.natCast_nonneg _, HXZ.out.mono HLZ.out⟩), by rw [HP.out]; exact HSZ.out, HOZ.out⟩
            · have C15 : Hid (∀ w0, ScanAt b s ((dgK s (dgK s (k) 2 + 1) 2 + 1 : Nat) : Int) w0 → Calls Tryz.prog 78 #[.pointer (some ⟨b, 0, none⟩), .int .i64 2] w0 fun e w' => e = .returned (.tuple #[.int .i64 ((dgN s (dgK s (dgK s (k) 2 + 1) 2 + 1) 2 : Nat) : Int), .bool true]) ∧ ScanAt b s ((dgK s (dgK s (dgK s (k) 2 + 1) 2 + 1) 2 : Nat) : Int) w' ∧ Only b w0 w') := Lib.hid fun w0 h => by
                  have q := digits_any b s (dgK s (dgK s (k) 2 + 1) 2 + 1) 2 2 rfl w0 h (isB_lt F14.out) hs (by omega)
                  rw [h15] at q
                  exact q
              have hx15 := dgN_lt s (dgK s (dgK s (k) 2 + 1) 2 + 1) 2
              have F15 := Lib.hid h15; clear h15
              obtain ⟨H2, hH2⟩ : ∃ H, dgN s (dgK s (dgK s (k) 2 + 1) 2 + 1) 2 = H := ⟨_, rfl⟩
              rw [hH2] at C15
              have hl2 : H2 < 100 := by rw [← hH2]; exact dgN_lt s _ 2
              rcases (show (H0 = 24 ∧ H1 = 0 ∧ H2 = 0) ∨ (H0 = 24 ∧ H1 ≠ 0) ∨ (H0 = 24 ∧ H1 = 0 ∧ H2 ≠ 0) ∨ (H0 ≠ 24 ∧ 23 < H0) ∨ (¬ 23 < H0 ∧ 59 < H1) ∨ (¬ 23 < H0 ∧ ¬ 59 < H1 ∧ 59 < H2) ∨ (¬ 23 < H0 ∧ ¬ 59 < H1 ∧ ¬ 59 < H2) by omega) with ⟨g0, g1, g2⟩ | ⟨g0, g1⟩ | ⟨g0, g1, g2⟩ | ⟨g0, g1⟩ | ⟨g0, g1⟩ | ⟨g0, g1, g2⟩ | ⟨g0, g1, g2⟩
              · skip
                have e0 : ((H0 : Int) == 24) = true := (by first | (simp; done) | (simp; omega))
                have e0n : (H0 == 24) = true := (by first | (simp; done) | (simp; omega))
                have e1 : ((H1 : Int) == 0) = true := (by first | (simp; done) | (simp; omega))
                have e1n : (H1 == 0) = true := (by first | (simp; done) | (simp; omega))
                have e2 : ((H2 : Int) == 0) = true := (by first | (simp; done) | (simp; omega))
                have e2n : (H2 == 0) = true := (by first | (simp; done) | (simp; omega))
                have HP : Hid (clockP s true k = ⟨86400, 0, -1, dgK s (dgK s (dgK s (k) 2 + 1) 2 + 1) 2⟩) := Lib.hid (by simp [clockP, ckEnd, F1.out, hH0, F10.out, F12.out, hH1, F14.out, F15.out, hH2, g0, g1, g2] <;> (intros; omega))
                clear g0 g1 g2
                go_wp2_with (first
                  | (go_at_call 78; (with_reducible refine (C15.out _ S14.out).mono ?_); rintro e w15 ⟨rfl, hS, hO⟩; have S15 := Lib.hid (ScanAt.off hS ⟨w.heap.size, 2, none⟩ (Nat.ne_of_gt HBL.out) (.int .i64 (H2 : Int))); have O15 := Lib.hid ((O14.out.trans hO).above HBL.out 2 (.int .i64 (H2 : Int))); have hL := L14.out.only hO (by have := HBL.out; omega); have L15 := Lib.hid (hL.put2 (H2 : Int)); obtain ⟨-, ⟨c0, f0⟩, ⟨c1, f1⟩, ⟨c2, f2⟩⟩ := hL; clear hS hO))
                try (rw [rounds_succ]; go_wp2_with fail)
                go_ret2
                exact ⟨_, _, rfl, by rw [HP.out]; exact fun _ => by first | rfl | (dsimp only; omega), by rw [HP.out]; exact .inl ⟨rfl, rfl, rfl⟩, by rw [HP.out]; exact S15.out, O15.out⟩
              · skip
                have e0 : ((H0 : Int) == 24) = true := (by first | (simp; done) | (simp; omega))
                have e0n : (H0 == 24) = true := (by first | (simp; done) | (simp; omega))
                have e1 : ((H1 : Int) == 0) = false := (by first | (simp; done) | (simp; omega))
                have e1n : (H1 == 0) = false := (by first | (simp; done) | (simp; omega))
                have l0 : decide (23 < (H0 : Int)) = true := (by first | (simp; done) | (simp; omega))
                have l0n : decide (23 < H0) = true := (by first | (simp; done) | (simp; omega))
                have HP : Hid (clockP s true k = ⟨0, 3, -1, dgK s (dgK s (dgK s (k) 2 + 1) 2 + 1) 2⟩) := Lib.hid (by simp [clockP, ckEnd, F1.out, hH0, F10.out, F12.out, hH1, F14.out, F15.out, hH2, g0, g1] <;> (intros; omega))
                clear g0 g1
                go_wp2_with (first
                  | (go_at_call 78; (with_reducible refine (C15.out _ S14.out).mono ?_); rintro e w15 ⟨rfl, hS, hO⟩; have S15 := Lib.hid (ScanAt.off hS ⟨w.heap.size, 2, none⟩ (Nat.ne_of_gt HBL.out) (.int .i64 (H2 : Int))); have O15 := Lib.hid ((O14.out.trans hO).above HBL.out 2 (.int .i64 (H2 : Int))); have hL := L14.out.only hO (by have := HBL.out; omega); have L15 := Lib.hid (hL.put2 (H2 : Int)); obtain ⟨-, ⟨c0, f0⟩, ⟨c1, f1⟩, ⟨c2, f2⟩⟩ := hL; clear hS hO))
                try (rw [rounds_succ]; go_wp2_with fail)
                go_ret2
                exact ⟨_, _, rfl, by rw [HP.out]; exact fun h => absurd h three_ne, by rw [HP.out]; exact .inr (.inl ⟨three_ne, rfl, rfl⟩), by rw [HP.out]; exact S15.out, O15.out⟩
              · skip
                have e0 : ((H0 : Int) == 24) = true := (by first | (simp; done) | (simp; omega))
                have e0n : (H0 == 24) = true := (by first | (simp; done) | (simp; omega))
                have e1 : ((H1 : Int) == 0) = true := (by first | (simp; done) | (simp; omega))
                have e1n : (H1 == 0) = true := (by first | (simp; done) | (simp; omega))
                have e2 : ((H2 : Int) == 0) = false := (by first | (simp; done) | (simp; omega))
                have e2n : (H2 == 0) = false := (by first | (simp; done) | (simp; omega))
                have l0 : decide (23 < (H0 : Int)) = true := (by first | (simp; done) | (simp; omega))
                have l0n : decide (23 < H0) = true := (by first | (simp; done) | (simp; omega))
                have HP : Hid (clockP s true k = ⟨0, 3, -1, dgK s (dgK s (dgK s (k) 2 + 1) 2 + 1) 2⟩) := Lib.hid (by simp [clockP, ckEnd, F1.out, hH0, F10.out, F12.out, hH1, F14.out, F15.out, hH2, g0, g1, g2] <;> (intros; omega))
                clear g0 g1 g2
                go_wp2_with (first
                  | (go_at_call 78; (with_reducible refine (C15.out _ S14.out).mono ?_); rintro e w15 ⟨rfl, hS, hO⟩; have S15 := Lib.hid (ScanAt.off hS ⟨w.heap.size, 2, none⟩ (Nat.ne_of_gt HBL.out) (.int .i64 (H2 : Int))); have O15 := Lib.hid ((O14.out.trans hO).above HBL.out 2 (.int .i64 (H2 : Int))); have hL := L14.out.only hO (by have := HBL.out; omega); have L15 := Lib.hid (hL.put2 (H2 : Int)); obtain ⟨-, ⟨c0, f0⟩, ⟨c1, f1⟩, ⟨c2, f2⟩⟩ := hL; clear hS hO))
                try (rw [rounds_succ]; go_wp2_with fail)
                go_ret2
                exact ⟨_, _, rfl, by rw [HP.out]; exact fun h => absurd h three_ne, by rw [HP.out]; exact .inr (.inl ⟨three_ne, rfl, rfl⟩), by rw [HP.out]; exact S15.out, O15.out⟩
              · skip
                have e0 : ((H0 : Int) == 24) = false := (by first | (simp; done) | (simp; omega))
                have e0n : (H0 == 24) = false := (by first | (simp; done) | (simp; omega))
                have l0 : decide (23 < (H0 : Int)) = true := (by first | (simp; done) | (simp; omega))
                have l0n : decide (23 < H0) = true := (by first | (simp; done) | (simp; omega))
                have HP : Hid (clockP s true k = ⟨0, 3, -1, dgK s (dgK s (dgK s (k) 2 + 1) 2 + 1) 2⟩) := Lib.hid (by simp [clockP, ckEnd, F1.out, hH0, F10.out, F12.out, hH1, F14.out, F15.out, hH2, g0, g1] <;> (intros; omega))
                clear g0 g1
                go_wp2_with (first
                  | (go_at_call 78; (with_reducible refine (C15.out _ S14.out).mono ?_); rintro e w15 ⟨rfl, hS, hO⟩; have S15 := Lib.hid (ScanAt.off hS ⟨w.heap.size, 2, none⟩ (Nat.ne_of_gt HBL.out) (.int .i64 (H2 : Int))); have O15 := Lib.hid ((O14.out.trans hO).above HBL.out 2 (.int .i64 (H2 : Int))); have hL := L14.out.only hO (by have := HBL.out; omega); have L15 := Lib.hid (hL.put2 (H2 : Int)); obtain ⟨-, ⟨c0, f0⟩, ⟨c1, f1⟩, ⟨c2, f2⟩⟩ := hL; clear hS hO))
                try (rw [rounds_succ]; go_wp2_with fail)
                go_ret2
                exact ⟨_, _, rfl, by rw [HP.out]; exact fun h => absurd h three_ne, by rw [HP.out]; exact .inr (.inl ⟨three_ne, rfl, rfl⟩), by rw [HP.out]; exact S15.out, O15.out⟩
              · skip
                have e0 : ((H0 : Int) == 24) = false := (by first | (simp; done) | (simp; omega))
                have e0n : (H0 == 24) = false := (by first | (simp; done) | (simp; omega))
                have l0 : decide (23 < (H0 : Int)) = false := (by first | (simp; done) | (simp; omega))
                have l0n : decide (23 < H0) = false := (by first | (simp; done) | (simp; omega))
                have l1 : decide (59 < (H1 : Int)) = true := (by first | (simp; done) | (simp; omega))
                have l1n : decide (59 < H1) = true := (by first | (simp; done) | (simp; omega))
                have HP : Hid (clockP s true k = ⟨0, 3, -1, dgK s (dgK s (dgK s (k) 2 + 1) 2 + 1) 2⟩) := Lib.hid (by simp [clockP, ckEnd, F1.out, hH0, F10.out, F12.out, hH1, F14.out, F15.out, hH2, g0, g1] <;> (intros; omega))
                clear g0 g1
                go_wp2_with (first
                  | (go_at_call 78; (with_reducible refine (C15.out _ S14.out).mono ?_); rintro e w15 ⟨rfl, hS, hO⟩; have S15 := Lib.hid (ScanAt.off hS ⟨w.heap.size, 2, none⟩ (Nat.ne_of_gt HBL.out) (.int .i64 (H2 : Int))); have O15 := Lib.hid ((O14.out.trans hO).above HBL.out 2 (.int .i64 (H2 : Int))); have hL := L14.out.only hO (by have := HBL.out; omega); have L15 := Lib.hid (hL.put2 (H2 : Int)); obtain ⟨-, ⟨c0, f0⟩, ⟨c1, f1⟩, ⟨c2, f2⟩⟩ := hL; clear hS hO))
                try (rw [rounds_succ]; go_wp2_with fail)
                go_ret2
                exact ⟨_, _, rfl, by rw [HP.out]; exact fun h => absurd h three_ne, by rw [HP.out]; exact .inr (.inl ⟨three_ne, rfl, rfl⟩), by rw [HP.out]; exact S15.out, O15.out⟩
              · skip
                have e0 : ((H0 : Int) == 24) = false := (by first | (simp; done) | (simp; omega))
                have e0n : (H0 == 24) = false := (by first | (simp; done) | (simp; omega))
                have l0 : decide (23 < (H0 : Int)) = false := (by first | (simp; done) | (simp; omega))
                have l0n : decide (23 < H0) = false := (by first | (simp; done) | (simp; omega))
                have l1 : decide (59 < (H1 : Int)) = false := (by first | (simp; done) | (simp; omega))
                have l1n : decide (59 < H1) = false := (by first | (simp; done) | (simp; omega))
                have l2 : decide (59 < (H2 : Int)) = true := (by first | (simp; done) | (simp; omega))
                have l2n : decide (59 < H2) = true := (by first | (simp; done) | (simp; omega))
                have HP : Hid (clockP s true k = ⟨0, 3, -1, dgK s (dgK s (dgK s (k) 2 + 1) 2 + 1) 2⟩) := Lib.hid (by simp [clockP, ckEnd, F1.out, hH0, F10.out, F12.out, hH1, F14.out, F15.out, hH2, g0, g1, g2] <;> (intros; omega))
                clear g0 g1 g2
                go_wp2_with (first
                  | (go_at_call 78; (with_reducible refine (C15.out _ S14.out).mono ?_); rintro e w15 ⟨rfl, hS, hO⟩; have S15 := Lib.hid (ScanAt.off hS ⟨w.heap.size, 2, none⟩ (Nat.ne_of_gt HBL.out) (.int .i64 (H2 : Int))); have O15 := Lib.hid ((O14.out.trans hO).above HBL.out 2 (.int .i64 (H2 : Int))); have hL := L14.out.only hO (by have := HBL.out; omega); have L15 := Lib.hid (hL.put2 (H2 : Int)); obtain ⟨-, ⟨c0, f0⟩, ⟨c1, f1⟩, ⟨c2, f2⟩⟩ := hL; clear hS hO))
                try (rw [rounds_succ]; go_wp2_with fail)
                go_ret2
                exact ⟨_, _, rfl, by rw [HP.out]; exact fun h => absurd h three_ne, by rw [HP.out]; exact .inr (.inl ⟨three_ne, rfl, rfl⟩), by rw [HP.out]; exact S15.out, O15.out⟩
              · skip
                have e0 : ((H0 : Int) == 24) = false := (by first | (simp; done) | (simp; omega))
                have e0n : (H0 == 24) = false := (by first | (simp; done) | (simp; omega))
                have l0 : decide (23 < (H0 : Int)) = false := (by first | (simp; done) | (simp; omega))
                have l0n : decide (23 < H0) = false := (by first | (simp; done) | (simp; omega))
                have l1 : decide (59 < (H1 : Int)) = false := (by first | (simp; done) | (simp; omega))
                have l1n : decide (59 < H1) = false := (by first | (simp; done) | (simp; omega))
                have l2 : decide (59 < (H2 : Int)) = false := (by first | (simp; done) | (simp; omega))
                have l2n : decide (59 < H2) = false := (by first | (simp; done) | (simp; omega))
                have HP : Hid (clockP s true k = ⟨((H0 : Int) * 60 + (H1 : Int)) * 60 + (H2 : Int), 0, -1, dgK s (dgK s (dgK s (k) 2 + 1) 2 + 1) 2⟩) := Lib.hid (by simp [clockP, ckEnd, F1.out, hH0, F10.out, F12.out, hH1, F14.out, F15.out, hH2, g0, g1, g2] <;> (intros; omega))
                clear g0 g1 g2
                go_wp2_with (first
                  | (go_at_call 78; (with_reducible refine (C15.out _ S14.out).mono ?_); rintro e w15 ⟨rfl, hS, hO⟩; have S15 := Lib.hid (ScanAt.off hS ⟨w.heap.size, 2, none⟩ (Nat.ne_of_gt HBL.out) (.int .i64 (H2 : Int))); have O15 := Lib.hid ((O14.out.trans hO).above HBL.out 2 (.int .i64 (H2 : Int))); have hL := L14.out.only hO (by have := HBL.out; omega); have L15 := Lib.hid (hL.put2 (H2 : Int)); obtain ⟨-, ⟨c0, f0⟩, ⟨c1, f1⟩, ⟨c2, f2⟩⟩ := hL; clear hS hO))
                try (rw [rounds_succ]; go_wp2_with fail)
                go_ret2
                exact ⟨_, _, rfl, by rw [HP.out]; exact fun _ => by first | rfl | (dsimp only; omega), by rw [HP.out]; exact .inl ⟨rfl, rfl, rfl⟩, by rw [HP.out]; exact S15.out, O15.out⟩
end Go.Proofs.YtkfpnlenmdlmjaaGreatDoor
