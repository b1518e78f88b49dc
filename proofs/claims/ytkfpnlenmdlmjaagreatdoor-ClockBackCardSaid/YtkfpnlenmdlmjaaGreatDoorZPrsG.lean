/- clock.Parse. Printed by a program of mine. -/
import Derived.Test.YtkfpnlenmdlmjaaGreatDoorZG7
namespace Go.Proofs.YtkfpnlenmdlmjaaGreatDoor
open Go.RowKit Scm
theorem below_set3 {w w1 : World} (h : Below w.heap.size w w1) (x0 x1 x2 : Value) : Below w.heap.size w (((w1.setCell ⟨w.heap.size, 0, none⟩ x0).setCell ⟨w.heap.size, 1, none⟩ x1).setCell ⟨w.heap.size, 2, none⟩ x2) :=
  ((h.setCell (p := ⟨w.heap.size, 0, none⟩) (Nat.le_refl _) x0).setCell (p := ⟨w.heap.size, 1, none⟩) (Nat.le_refl _) x1).setCell (p := ⟨w.heap.size, 2, none⟩) (Nat.le_refl _) x2
theorem AtBox.set3 {w w1 : World} {n k : Int} {v : Value} (h : AtBox (w.heap.size + 1) n k v w1) (x0 x1 x2 : Value) : AtBox w.heap.size n k v (((w1.setCell ⟨w.heap.size, 0, none⟩ x0).setCell ⟨w.heap.size, 1, none⟩ x1).setCell ⟨w.heap.size, 2, none⟩ x2) :=
  (((h.set (q := ⟨w.heap.size, 0, none⟩) (Nat.lt_succ_self _) x0).set (q := ⟨w.heap.size, 1, none⟩) (Nat.lt_succ_self _) x1).set (q := ⟨w.heap.size, 2, none⟩) (Nat.lt_succ_self _) x2).mono (Nat.le_succ _)
theorem L3.far {B : Nat} {x0 x1 x2 : Int} {w : World} (h : L3 B x0 x1 x2 w) {p : Addr} (hp : p.block ≠ B) (v : Value) : L3 B x0 x1 x2 (w.setCell p v) := by
  obtain ⟨h0, ⟨c0, f0⟩, ⟨c1, f1⟩, ⟨c2, f2⟩⟩ := h
  have far : ∀ i, (w.setCell p v).cell? ⟨B, i, none⟩ = w.cell? ⟨B, i, none⟩ := fun i => World.cell?_setCell_other _ _ _ _ (by intro e; exact hp (congrArg Addr.block e))
  exact ⟨by simp [World.setCell]; exact h0, ⟨(far 0).trans c0, by rw [World.frozen?_setCell]; exact f0⟩, ⟨(far 1).trans c1, by rw [World.frozen?_setCell]; exact f1⟩, ⟨(far 2).trans c2, by rw [World.frozen?_setCell]; exact f2⟩⟩
theorem L3.call {B : Nat} {x0 x1 x2 : Int} {w w' : World} (h : L3 B x0 x1 x2 w) (hb : Below w.heap.size w w') : L3 B x0 x1 x2 w' := h.only (b := w.heap.size) (Only.of hb (Nat.le_refl _)) (Nat.ne_of_lt h.1)
theorem owE_bd {y k d : Int} (h : owE y k d = 0) : -4000000 ≤ owR y k d ∧ owR y k d ≤ 4000000 := by
  unfold owE at h; unfold owR
  split at h
  · exact absurd h ‹_›
  · rw [if_neg ‹_›]
    split at h
    · exact absurd h (by decide)
    · rw [if_neg ‹_›]
      unfold rangeE at h; unfold rangeR
      split at h
      · rw [if_pos ‹_›]; assumption
      · exact absurd h (by decide)
theorem ordE_bd {y n : Int} (h : ordE y n = 0) : -4000000 ≤ ordR y n ∧ ordR y n ≤ 4000400 := by
  have e : ordR y n = dayR 1 y 1 1 + n - 1 := if_pos h
  unfold ordE at h
  split at h
  · exact absurd h ‹_›
  · rename_i h1
    split at h
    · exact absurd h (by decide)
    · rename_i h2
      have q := dayE_bd (Decidable.not_not.1 h1)
      omega
theorem dayP_bd {s : ByteArray} : (dayP s 0).err = 0 → -4000000 ≤ (dayP s 0).day ∧ (dayP s 0).day ≤ 4000400 := by
  unfold dayP dayA wkP mdP ordP
  repeat (first | exact fun h => absurd h five_ne | (intro h; have q := owE_bd h; dsimp only at q ⊢; omega) | (intro h; have q := dayE_bd h; dsimp only at q ⊢; omega) | exact fun h => ordE_bd h | split)
theorem dayP_place {s : ByteArray} (hp : (dayP s 0).place ≠ -1) : 0 ≤ (dayP s 0).place := by
  have key : ∀ D : DayP, D.place = -1 ∨ 0 ≤ D.place → D.place ≠ -1 → 0 ≤ D.place := fun D h h2 => h.resolve_left h2
  refine key _ ?_ hp
  have hb : ∀ wd k, (badD wd k).place = -1 ∨ 0 ≤ (badD wd k).place := fun wd k => .inr (Int.natCast_nonneg _)
  unfold dayP dayA wkP mdP ordP
  repeat (first | exact hb _ _ | exact .inl rfl | split)
set_option maxRecDepth 100000 in
set_option maxHeartbeats 8000000 in
theorem cparseS_errno (s : ByteArray) (w : World) (hr : RomanT w) (hs : s.size ≤ 9223372036854775807) (hx : (dayP s 0).err ≠ 0) (hp : (dayP s 0).place = -1) :
    Calls Tryz.prog 19 #[.string s] w (StPost2 (parP s) w) := by
  have HW2 : Hid (ScanAt (w.heap.size + 1) s ((0 : Nat) : Int) ((w.alloc (.cells #[.int .i64 0, .int .i64 0, .int .i64 0] 24)).alloc (.cells #[.string s, .int .i64 0] 93)) ∧ L3 w.heap.size 0 0 0 ((w.alloc (.cells #[.int .i64 0, .int .i64 0, .int .i64 0] 24)).alloc (.cells #[.string s, .int .i64 0] 93)) ∧ Below w.heap.size w ((w.alloc (.cells #[.int .i64 0, .int .i64 0, .int .i64 0] 24)).alloc (.cells #[.string s, .int .i64 0] 93))) := Lib.hid (by
    have q := ScanAt.new (w.alloc (.cells #[.int .i64 0, .int .i64 0, .int .i64 0] 24)) s ((0 : Nat) : Int) 93
    rw [World.size_alloc] at q
    exact ⟨q, (L3.new w _).call ((Below.refl _ _).alloc (Nat.le_refl _) _), ((Below.refl _ _).alloc (Nat.le_refl _) _).alloc (by simp) _⟩)
  have HRB : Hid (2 < w.heap.size + 1) := Lib.hid (Nat.lt_succ_of_lt hr.lt)
  have HRM2 : Hid (RomanT ((w.alloc (.cells #[.int .i64 0, .int .i64 0, .int .i64 0] 24)).alloc (.cells #[.string s, .int .i64 0] 93))) := Lib.hid (hr.call HW2.out.2.2)
  clear hr
  have CD := Lib.hid ((cday_any (w.heap.size + 1) s 0 ((w.alloc (.cells #[.int .i64 0, .int .i64 0, .int .i64 0] 24)).alloc (.cells #[.string s, .int .i64 0] 93)) HRM2.out HRB.out HW2.out.1 (by omega) hs).mono fun e w' h => h.errno hx hp)
  have HP : Hid (parP s = ⟨0, 0, 0, (dayP s 0).err, (dayP s 0).place⟩) := Lib.hid (by unfold parP parD; rw [if_neg hx])
  have HX0 := Lib.hid hx
  have HX1 := Lib.hid hp
  clear hx hp
  go_enter Tryz.func19, Tryz.ntmps19
  go_wp2_with (go_at_call 41; (with_reducible refine CD.out.mono ?_); rintro e w1 ⟨D, rfl, hS, hO⟩; have HL := Lib.hid (HW2.out.2.1.only hO (by omega)); have HB := Lib.hid (hO.new HW2.out.2.2 (by omega)); obtain ⟨-, ⟨c0, f0⟩, ⟨c1, f1⟩, ⟨c2, f2⟩⟩ := HL.out; clear hS hO)
  have hq := (((HL.out).put0 (0)).put1 (0)).put2 (0)
  exact bodyPost_ret (v := .tuple #[.agg #[.int .i64 (0), .int .i64 (0), .int .i64 (0)], .iface 25 (.int .i64 (dayP s 0).err)]) (by simp [results, Tryz.results19, go_sem, hq.2.1.1, hq.2.2.1.1, hq.2.2.2.1]) rfl ⟨below_set3 HB.out _ _ _, _, by rw [HP.out], by rw [HP.out]; exact .inr (.inl ⟨HX0.out, HX1.out, rfl⟩)⟩
set_option maxRecDepth 100000 in
set_option maxHeartbeats 8000000 in
theorem cparseS_box (s : ByteArray) (w : World) (hr : RomanT w) (hs : s.size ≤ 9223372036854775807) (hx : (dayP s 0).err ≠ 0) (hp : (dayP s 0).place ≠ -1) :
    Calls Tryz.prog 19 #[.string s] w (StPost2 (parP s) w) := by
  have HW2 : Hid (ScanAt (w.heap.size + 1) s ((0 : Nat) : Int) ((w.alloc (.cells #[.int .i64 0, .int .i64 0, .int .i64 0] 24)).alloc (.cells #[.string s, .int .i64 0] 93)) ∧ L3 w.heap.size 0 0 0 ((w.alloc (.cells #[.int .i64 0, .int .i64 0, .int .i64 0] 24)).alloc (.cells #[.string s, .int .i64 0] 93)) ∧ Below w.heap.size w ((w.alloc (.cells #[.int .i64 0, .int .i64 0, .int .i64 0] 24)).alloc (.cells #[.string s, .int .i64 0] 93))) := Lib.hid (by
    have q := ScanAt.new (w.alloc (.cells #[.int .i64 0, .int .i64 0, .int .i64 0] 24)) s ((0 : Nat) : Int) 93
    rw [World.size_alloc] at q
    exact ⟨q, (L3.new w _).call ((Below.refl _ _).alloc (Nat.le_refl _) _), ((Below.refl _ _).alloc (Nat.le_refl _) _).alloc (by simp) _⟩)
  have HRB : Hid (2 < w.heap.size + 1) := Lib.hid (Nat.lt_succ_of_lt hr.lt)
  have HRM2 : Hid (RomanT ((w.alloc (.cells #[.int .i64 0, .int .i64 0, .int .i64 0] 24)).alloc (.cells #[.string s, .int .i64 0] 93))) := Lib.hid (hr.call HW2.out.2.2)
  clear hr
  have CD := Lib.hid ((cday_any (w.heap.size + 1) s 0 ((w.alloc (.cells #[.int .i64 0, .int .i64 0, .int .i64 0] 24)).alloc (.cells #[.string s, .int .i64 0] 93)) HRM2.out HRB.out HW2.out.1 (by omega) hs).mono fun e w' h => h.box hx hp)
  have HP : Hid (parP s = ⟨0, 0, 0, (dayP s 0).err, (dayP s 0).place⟩) := Lib.hid (by unfold parP parD; rw [if_neg hx])
  have HX0 := Lib.hid hx
  have HX1 : Hid (0 ≤ (dayP s 0).place) := Lib.hid (dayP_place hp)
  clear hx hp
  go_enter Tryz.func19, Tryz.ntmps19
  go_wp2_with (go_at_call 41; (with_reducible refine CD.out.mono ?_); rintro e w1 ⟨D, p, rfl, hX, hS, hO⟩; have HL := Lib.hid (HW2.out.2.1.only hO (by omega)); have HB := Lib.hid (hO.new HW2.out.2.2 (by omega)); have HXB := Lib.hid (hX.mono (C := w.heap.size + 1) (by simp <;> omega)); obtain ⟨-, ⟨c0, f0⟩, ⟨c1, f1⟩, ⟨c2, f2⟩⟩ := HL.out; clear hX hS hO)
  have hq := (((HL.out).put0 (0)).put1 (0)).put2 (0)
  exact bodyPost_ret (v := .tuple #[.agg #[.int .i64 (0), .int .i64 (0), .int .i64 (0)], .iface 105 (.pointer (some ⟨p, 0, none⟩))]) (by simp [results, Tryz.results19, go_sem, hq.2.1.1, hq.2.2.1.1, hq.2.2.2.1]) rfl ⟨below_set3 HB.out _ _ _, _, by rw [HP.out], by rw [HP.out]; exact .inr (.inr ⟨HX0.out, HX1.out, HXB.out.set3 _ _ _⟩)⟩
set_option maxRecDepth 100000 in
set_option maxHeartbeats 8000000 in
theorem cparseS_noT (s : ByteArray) (w : World) (hr : RomanT w) (hs : s.size ≤ 9223372036854775807) (hx : (dayP s 0).err = 0) (hT : isB s (dayP s 0).at_ 84 = false) :
    Calls Tryz.prog 19 #[.string s] w (StPost2 (parP s) w) := by
  have HW2 : Hid (ScanAt (w.heap.size + 1) s ((0 : Nat) : Int) ((w.alloc (.cells #[.int .i64 0, .int .i64 0, .int .i64 0] 24)).alloc (.cells #[.string s, .int .i64 0] 93)) ∧ L3 w.heap.size 0 0 0 ((w.alloc (.cells #[.int .i64 0, .int .i64 0, .int .i64 0] 24)).alloc (.cells #[.string s, .int .i64 0] 93)) ∧ Below w.heap.size w ((w.alloc (.cells #[.int .i64 0, .int .i64 0, .int .i64 0] 24)).alloc (.cells #[.string s, .int .i64 0] 93))) := Lib.hid (by
    have q := ScanAt.new (w.alloc (.cells #[.int .i64 0, .int .i64 0, .int .i64 0] 24)) s ((0 : Nat) : Int) 93
    rw [World.size_alloc] at q
    exact ⟨q, (L3.new w _).call ((Below.refl _ _).alloc (Nat.le_refl _) _), ((Below.refl _ _).alloc (Nat.le_refl _) _).alloc (by simp) _⟩)
  have HRB : Hid (2 < w.heap.size + 1) := Lib.hid (Nat.lt_succ_of_lt hr.lt)
  have HRM2 : Hid (RomanT ((w.alloc (.cells #[.int .i64 0, .int .i64 0, .int .i64 0] 24)).alloc (.cells #[.string s, .int .i64 0] 93))) := Lib.hid (hr.call HW2.out.2.2)
  clear hr
  have CD := Lib.hid ((cday_any (w.heap.size + 1) s 0 ((w.alloc (.cells #[.int .i64 0, .int .i64 0, .int .i64 0] 24)).alloc (.cells #[.string s, .int .i64 0] 93)) HRM2.out HRB.out HW2.out.1 (by omega) hs).mono fun e w' h => h.ok hx)
  have HE : Hid (parP s = endP (dayP s 0).day 0 0 0 s.size (dayP s 0).at_) := Lib.hid (by unfold parP parD; rw [if_pos hx, if_neg (by rw [hT]; decide)])
  obtain ⟨K, hK⟩ : ∃ K, (dayP s 0).at_ = K := ⟨_, rfl⟩; obtain ⟨D, hD⟩ : ∃ K, (dayP s 0).day = K := ⟨_, rfl⟩; obtain ⟨wd, hwd⟩ : ∃ K, (dayP s 0).wide = K := ⟨_, rfl⟩
  rw [hK, hD, hwd] at CD; rw [hK, hD] at HE; rw [hK] at hT
  have CT : Hid (∀ w0, ScanAt (w.heap.size + 1) s (K : Int) w0 → Calls Tryz.prog 42 #[.pointer (some ⟨w.heap.size + 1, 0, none⟩), .int .u8 84] w0 fun e w' => e = .returned (.bool false) ∧ ScanAt (w.heap.size + 1) s (K : Int) w' ∧ Only (w.heap.size + 1) w0 w') := Lib.hid fun w0 h => by
      have q := cis_any (w.heap.size + 1) s K 84 w0 h hs
      rw [hT, isK_no hT] at q
      exact q
  clear hx hT hK hD hwd
  by_cases hlt : K < s.size
  · have HP : Hid (parP s = ⟨0, 0, 0, 5, ((K : Nat) : Int)⟩) := Lib.hid (by rw [HE.out]; unfold endP; rw [if_pos hlt])
    have hld : decide (K < s.size) = true := decide_eq_true hlt; have hldi : decide (((K : Nat) : Int) < (s.size : Int)) = true := decide_eq_true (by omega)
    have CB := Lib.hid (fun w0 (h : ScanAt (w.heap.size + 1) s ((K : Nat) : Int) w0) => bad_any (w.heap.size + 1) s (K) w0 h)
    unfold BadPost at CB
    have HX0 : Hid ((5 : Int) ≠ 0) := Lib.hid five_ne; have HX1 : Hid (0 ≤ ((K : Nat) : Int)) := Lib.hid (Int.natCast_nonneg _)
    go_enter Tryz.func19, Tryz.ntmps19
    go_wp2_with (first
      | (go_at_call 41; (with_reducible refine CD.out.mono ?_); rintro e w1 ⟨rfl, hS, hO⟩; have HL1 := Lib.hid (HW2.out.2.1.only hO (by omega)); have HB1 := Lib.hid (hO.new HW2.out.2.2 (by omega)); have HS1 := Lib.hid hS; have HZ1 := Lib.hid hS.1; clear hS hO)
      | (go_at_call 42; (with_reducible refine (CT.out _ (HS1.out.alloc _)).mono ?_); rintro e w2 ⟨rfl, hS, hO⟩; have HL2 := Lib.hid ((HL1.out.call ((Below.refl _ _).alloc (Nat.le_refl _) _)).only hO (by omega)); have HB2 := Lib.hid (hO.new (HB1.out.alloc HB1.out.size _) (by omega)); have HS2 := Lib.hid hS; have HM2 := Lib.hid ((L3.new w1 24).only hO (Nat.ne_of_gt HZ1.out)); obtain ⟨-, k0, k1, -⟩ := hS; clear hO)
      | (go_at_call 45; (with_reducible refine (CB.out _ HS2.out).mono ?_); rintro e wz ⟨p, rfl, hX, hb⟩; have HXB := Lib.hid (hX.mono (C := w.heap.size + 1) (by have := HL2.out.1; omega)); have HLZ := Lib.hid (HL2.out.call hb); have HBZ := Lib.hid (thenB HB2.out hb); obtain ⟨-, ⟨c0, f0⟩, ⟨c1, f1⟩, ⟨c2, f2⟩⟩ := HLZ.out; clear hX hb))
    have hq := (((HLZ.out).put0 (0)).put1 (0)).put2 (0)
    exact bodyPost_ret (v := .tuple #[.agg #[.int .i64 (0), .int .i64 (0), .int .i64 (0)], .iface 105 (.pointer (some ⟨p, 0, none⟩))]) (by simp [results, Tryz.results19, go_sem, hq.2.1.1, hq.2.2.1.1, hq.2.2.2.1]) rfl ⟨below_set3 HBZ.out _ _ _, _, by rw [HP.out], by rw [HP.out]; exact .inr (.inr ⟨HX0.out, HX1.out, HXB.out.set3 _ _ _⟩)⟩
  · have hld : decide (K < s.size) = false := decide_eq_false hlt; have hldi : decide (((K : Nat) : Int) < (s.size : Int)) = false := decide_eq_false (by omega)
    have HF := Lib.hid (join_all D 0)
    by_cases hj : joinE D 0 = 0
    · have HP : Hid (parP s = ⟨joinR D 0, 0, 0, 0, -1⟩) := Lib.hid (by rw [HE.out]; unfold endP; rw [if_neg hlt]; simp [hj])
      have CJ : Hid (∀ w0, Calls Tryz.prog 46 #[.int .i64 D, .int .i64 0] w0 fun e w' => e = .returned (.tuple #[.int .i64 (joinR D 0), .nilIface]) ∧ w0 = w') := Lib.hid fun w0 => (HF.out w0).mono fun e w' ⟨h1, h2⟩ => ⟨by rw [h1, hj]; rfl, h2⟩
      obtain ⟨J, hJ⟩ : ∃ J, joinR D 0 = J := ⟨_, rfl⟩; rw [hJ] at CJ HP; clear hJ hj
      go_enter Tryz.func19, Tryz.ntmps19
      go_wp2_with (first
        | (go_at_call 41; (with_reducible refine CD.out.mono ?_); rintro e w1 ⟨rfl, hS, hO⟩; have HL1 := Lib.hid (HW2.out.2.1.only hO (by omega)); have HB1 := Lib.hid (hO.new HW2.out.2.2 (by omega)); have HS1 := Lib.hid hS; have HZ1 := Lib.hid hS.1; clear hS hO)
        | (go_at_call 42; (with_reducible refine (CT.out _ (HS1.out.alloc _)).mono ?_); rintro e w2 ⟨rfl, hS, hO⟩; have HL2 := Lib.hid ((HL1.out.call ((Below.refl _ _).alloc (Nat.le_refl _) _)).only hO (by omega)); have HB2 := Lib.hid (hO.new (HB1.out.alloc HB1.out.size _) (by omega)); have HS2 := Lib.hid hS; have HM2 := Lib.hid ((L3.new w1 24).only hO (Nat.ne_of_gt HZ1.out)); obtain ⟨-, k0, k1, -⟩ := hS; clear hO)
        | (go_at_call 46; (with_reducible refine (CJ.out _).mono ?_); rintro e wj ⟨rfl, rfl⟩; have hne : w1.heap.size ≠ w.heap.size := (by have := HL1.out.1; omega); have HLS := Lib.hid (HL2.out.far (p := ⟨w1.heap.size, 0, none⟩) hne (.int .i64 J)); have HBS := Lib.hid (HB2.out.setCell (p := ⟨w1.heap.size, 0, none⟩) HB1.out.size (.int .i64 J)); obtain ⟨-, ⟨c0, f0⟩, ⟨c1, f1⟩, ⟨c2, f2⟩⟩ := HL2.out; obtain ⟨-, ⟨m0, n0⟩, ⟨m1, n1⟩, ⟨m2, n2⟩⟩ := HM2.out))
      have hq := (((HLS.out).put0 (J)).put1 (0)).put2 (0)
      exact bodyPost_ret (v := .tuple #[.agg #[.int .i64 (J), .int .i64 (0), .int .i64 (0)], .nilIface]) (by simp [results, Tryz.results19, go_sem, hq.2.1.1, hq.2.2.1.1, hq.2.2.2.1]) rfl ⟨below_set3 HBS.out _ _ _, _, by rw [HP.out], by rw [HP.out]; exact .inl ⟨rfl, rfl, rfl⟩⟩
    · have HP : Hid (parP s = ⟨0, 0, 0, joinE D 0, -1⟩) := Lib.hid (by rw [HE.out]; unfold endP; rw [if_neg hlt]; simp [hj])
      have CJ : Hid (∀ w0, Calls Tryz.prog 46 #[.int .i64 D, .int .i64 0] w0 fun e w' => e = .returned (.tuple #[.int .i64 (joinR D 0), .iface 25 (.int .i64 (joinE D 0))]) ∧ w0 = w') := Lib.hid fun w0 => (HF.out w0).mono fun e w' ⟨h1, h2⟩ => ⟨by rw [h1, errV_hit hj], h2⟩
      have HX0 := Lib.hid hj
      obtain ⟨J, hJ⟩ : ∃ J, joinR D 0 = J := ⟨_, rfl⟩; rw [hJ] at CJ; clear hJ hj
      go_enter Tryz.func19, Tryz.ntmps19
      go_wp2_with (first
        | (go_at_call 41; (with_reducible refine CD.out.mono ?_); rintro e w1 ⟨rfl, hS, hO⟩; have HL1 := Lib.hid (HW2.out.2.1.only hO (by omega)); have HB1 := Lib.hid (hO.new HW2.out.2.2 (by omega)); have HS1 := Lib.hid hS; have HZ1 := Lib.hid hS.1; clear hS hO)
        | (go_at_call 42; (with_reducible refine (CT.out _ (HS1.out.alloc _)).mono ?_); rintro e w2 ⟨rfl, hS, hO⟩; have HL2 := Lib.hid ((HL1.out.call ((Below.refl _ _).alloc (Nat.le_refl _) _)).only hO (by omega)); have HB2 := Lib.hid (hO.new (HB1.out.alloc HB1.out.size _) (by omega)); have HS2 := Lib.hid hS; have HM2 := Lib.hid ((L3.new w1 24).only hO (Nat.ne_of_gt HZ1.out)); obtain ⟨-, k0, k1, -⟩ := hS; clear hO)
        | (go_at_call 46; (with_reducible refine (CJ.out _).mono ?_); rintro e wj ⟨rfl, rfl⟩; have hne : w1.heap.size ≠ w.heap.size := (by have := HL1.out.1; omega); have HLS := Lib.hid (HL2.out.far (p := ⟨w1.heap.size, 0, none⟩) hne (.int .i64 J)); have HBS := Lib.hid (HB2.out.setCell (p := ⟨w1.heap.size, 0, none⟩) HB1.out.size (.int .i64 J)); obtain ⟨-, ⟨c0, f0⟩, ⟨c1, f1⟩, ⟨c2, f2⟩⟩ := HL2.out; obtain ⟨-, ⟨m0, n0⟩, ⟨m1, n1⟩, ⟨m2, n2⟩⟩ := HM2.out))
      have hq := (((HLS.out).put0 (0)).put1 (0)).put2 (0)
      exact bodyPost_ret (v := .tuple #[.agg #[.int .i64 (0), .int .i64 (0), .int .i64 (0)], .iface 25 (.int .i64 (joinE D 0))]) (by simp [results, Tryz.results19, go_sem, hq.2.1.1, hq.2.2.1.1, hq.2.2.2.1]) rfl ⟨below_set3 HBS.out _ _ _, _, by rw [HP.out], by rw [HP.out]; exact .inr (.inl ⟨HX0.out, rfl, rfl⟩)⟩
theorem clockP_place {s : ByteArray} {wd : Bool} {k : Nat} (hp : (clockP s wd k).place ≠ -1) : 0 ≤ (clockP s wd k).place := by
  have key : ∀ D : CkP, D.place = -1 ∨ 0 ≤ D.place → D.place ≠ -1 → 0 ≤ D.place := fun D h h2 => h.resolve_left h2
  refine key _ ?_ hp
  have hb : ∀ k, (badC k).place = -1 ∨ 0 ≤ (badC k).place := fun k => .inr (Int.natCast_nonneg _)
  have he : ∀ h m z k, (ckEnd h m z k).place = -1 ∨ 0 ≤ (ckEnd h m z k).place := fun h m z k => by unfold ckEnd; split; exact .inl rfl; split; exact .inl rfl; exact .inl rfl
  unfold clockP
  repeat (first | exact hb _ | exact he _ _ _ _ | split)
set_option maxRecDepth 100000 in
set_option maxHeartbeats 8000000 in
theorem cparseS_cerrno (s : ByteArray) (w : World) (hr : RomanT w) (hs : s.size ≤ 9223372036854775807) (hx : (dayP s 0).err = 0) (hT : isB s (dayP s 0).at_ 84 = true)
    (hc : (clockP s (dayP s 0).wide ((dayP s 0).at_ + 1)).err ≠ 0) (hp : (clockP s (dayP s 0).wide ((dayP s 0).at_ + 1)).place = -1) :
    Calls Tryz.prog 19 #[.string s] w (StPost2 (parP s) w) := by
  have HW2 : Hid (ScanAt (w.heap.size + 1) s ((0 : Nat) : Int) ((w.alloc (.cells #[.int .i64 0, .int .i64 0, .int .i64 0] 24)).alloc (.cells #[.string s, .int .i64 0] 93)) ∧ L3 w.heap.size 0 0 0 ((w.alloc (.cells #[.int .i64 0, .int .i64 0, .int .i64 0] 24)).alloc (.cells #[.string s, .int .i64 0] 93)) ∧ Below w.heap.size w ((w.alloc (.cells #[.int .i64 0, .int .i64 0, .int .i64 0] 24)).alloc (.cells #[.string s, .int .i64 0] 93))) := Lib.hid (by
    have q := ScanAt.new (w.alloc (.cells #[.int .i64 0, .int .i64 0, .int .i64 0] 24)) s ((0 : Nat) : Int) 93
    rw [World.size_alloc] at q
    exact ⟨q, (L3.new w _).call ((Below.refl _ _).alloc (Nat.le_refl _) _), ((Below.refl _ _).alloc (Nat.le_refl _) _).alloc (by simp) _⟩)
  have HRB : Hid (2 < w.heap.size + 1) := Lib.hid (Nat.lt_succ_of_lt hr.lt)
  have HRM2 : Hid (RomanT ((w.alloc (.cells #[.int .i64 0, .int .i64 0, .int .i64 0] 24)).alloc (.cells #[.string s, .int .i64 0] 93))) := Lib.hid (hr.call HW2.out.2.2)
  clear hr
  have CD := Lib.hid ((cday_any (w.heap.size + 1) s 0 ((w.alloc (.cells #[.int .i64 0, .int .i64 0, .int .i64 0] 24)).alloc (.cells #[.string s, .int .i64 0] 93)) HRM2.out HRB.out HW2.out.1 (by omega) hs).mono fun e w' h => h.ok hx)
  have HE : Hid (parP s = parC s (dayP s 0) (clockP s (dayP s 0).wide ((dayP s 0).at_ + 1))) := Lib.hid (by unfold parP parD; rw [if_pos hx, if_pos hT])
  obtain ⟨P, hP⟩ : ∃ P, dayP s 0 = P := ⟨_, rfl⟩; rw [hP] at CD HE hT hc hp
  have HP : Hid (parP s = ⟨0, 0, 0, (clockP s P.wide (P.at_ + 1)).err, (clockP s P.wide (P.at_ + 1)).place⟩) := Lib.hid (by rw [HE.out]; unfold parC; rw [if_neg hc])
  have CT : Hid (∀ w0, ScanAt (w.heap.size + 1) s (P.at_ : Int) w0 → Calls Tryz.prog 42 #[.pointer (some ⟨w.heap.size + 1, 0, none⟩), .int .u8 84] w0 fun e w' => e = .returned (.bool true) ∧ ScanAt (w.heap.size + 1) s ((P.at_ + 1 : Nat) : Int) w' ∧ Only (w.heap.size + 1) w0 w') := Lib.hid fun w0 h => by
      have q := cis_any (w.heap.size + 1) s P.at_ 84 w0 h hs
      rw [hT, isK_yes hT] at q
      exact q
  have CC := Lib.hid (fun w0 (h : ScanAt (w.heap.size + 1) s ((P.at_ + 1 : Nat) : Int) w0) => (cclock_any (w.heap.size + 1) s (P.at_ + 1) P.wide w0 h (isB_lt hT) hs).mono fun e w' h => h.errno hc hp)
  have HX0 := Lib.hid hc
  have HX1 := Lib.hid hp
  obtain ⟨C, hC⟩ : ∃ C, clockP s P.wide (P.at_ + 1) = C := ⟨_, rfl⟩; rw [hC] at CC HX0 HX1 HP
  clear hx hT hc hp hP hC
  go_enter Tryz.func19, Tryz.ntmps19
  go_wp2_with (first
    | (go_at_call 41; (with_reducible refine CD.out.mono ?_); rintro e w1 ⟨rfl, hS, hO⟩; have HL1 := Lib.hid (HW2.out.2.1.only hO (by omega)); have HB1 := Lib.hid (hO.new HW2.out.2.2 (by omega)); have HS1 := Lib.hid hS; have HZ1 := Lib.hid hS.1; clear hS hO)
    | (go_at_call 42; (with_reducible refine (CT.out _ (HS1.out.alloc _)).mono ?_); rintro e w2 ⟨rfl, hS, hO⟩; have HL2 := Lib.hid ((HL1.out.call ((Below.refl _ _).alloc (Nat.le_refl _) _)).only hO (by omega)); have HB2 := Lib.hid (hO.new (HB1.out.alloc HB1.out.size _) (by omega)); have HS2 := Lib.hid hS; clear hS hO)
    | (go_at_call 43; (with_reducible refine (CC.out _ HS2.out).mono ?_); rintro e w3 ⟨Kc, rfl, hS, hO⟩; have HL3 := Lib.hid (HL2.out.only hO (by omega)); have HB3 := Lib.hid (HB2.out.trans (hO.1.mono (by omega))); obtain ⟨-, ⟨c0, f0⟩, ⟨c1, f1⟩, ⟨c2, f2⟩⟩ := HL3.out; clear hS hO))
  have hq := (((HL3.out).put0 (0)).put1 (0)).put2 (0)
  exact bodyPost_ret (v := .tuple #[.agg #[.int .i64 (0), .int .i64 (0), .int .i64 (0)], .iface 25 (.int .i64 C.err)]) (by simp [results, Tryz.results19, go_sem, hq.2.1.1, hq.2.2.1.1, hq.2.2.2.1]) rfl ⟨below_set3 HB3.out _ _ _, _, by rw [HP.out], by rw [HP.out]; exact .inr (.inl ⟨HX0.out, HX1.out, rfl⟩)⟩
set_option maxRecDepth 100000 in
set_option maxHeartbeats 8000000 in
theorem cparseS_cbox (s : ByteArray) (w : World) (hr : RomanT w) (hs : s.size ≤ 9223372036854775807) (hx : (dayP s 0).err = 0) (hT : isB s (dayP s 0).at_ 84 = true)
    (hc : (clockP s (dayP s 0).wide ((dayP s 0).at_ + 1)).err ≠ 0) (hp : (clockP s (dayP s 0).wide ((dayP s 0).at_ + 1)).place ≠ -1) :
    Calls Tryz.prog 19 #[.string s] w (StPost2 (parP s) w) := by
  have HW2 : Hid (ScanAt (w.heap.size + 1) s ((0 : Nat) : Int) ((w.alloc (.cells #[.int .i64 0, .int .i64 0, .int .i64 0] 24)).alloc (.cells #[.string s, .int .i64 0] 93)) ∧ L3 w.heap.size 0 0 0 ((w.alloc (.cells #[.int .i64 0, .int .i64 0, .int .i64 0] 24)).alloc (.cells #[.string s, .int .i64 0] 93)) ∧ Below w.heap.size w ((w.alloc (.cells #[.int .i64 0, .int .i64 0, .int .i64 0] 24)).alloc (.cells #[.string s, .int .i64 0] 93))) := Lib.hid (by
    have q := ScanAt.new (w.alloc (.cells #[.int .i64 0, .int .i64 0, .int .i64 0] 24)) s ((0 : Nat) : Int) 93
    rw [World.size_alloc] at q
    exact ⟨q, (L3.new w _).call ((Below.refl _ _).alloc (Nat.le_refl _) _), ((Below.refl _ _).alloc (Nat.le_refl _) _).alloc (by simp) _⟩)
  have HRB : Hid (2 < w.heap.size + 1) := Lib.hid (Nat.lt_succ_of_lt hr.lt)
  have HRM2 : Hid (RomanT ((w.alloc (.cells #[.int .i64 0, .int .i64 0, .int .i64 0] 24)).alloc (.cells #[.string s, .int .i64 0] 93))) := Lib.hid (hr.call HW2.out.2.2)
  clear hr
  have CD := Lib.hid ((cday_any (w.heap.size + 1) s 0 ((w.alloc (.cells #[.int .i64 0, .int .i64 0, .int .i64 0] 24)).alloc (.cells #[.string s, .int .i64 0] 93)) HRM2.out HRB.out HW2.out.1 (by omega) hs).mono fun e w' h => h.ok hx)
  have HE : Hid (parP s = parC s (dayP s 0) (clockP s (dayP s 0).wide ((dayP s 0).at_ + 1))) := Lib.hid (by unfold parP parD; rw [if_pos hx, if_pos hT])
  obtain ⟨P, hP⟩ : ∃ P, dayP s 0 = P := ⟨_, rfl⟩; rw [hP] at CD HE hT hc hp
  have HP : Hid (parP s = ⟨0, 0, 0, (clockP s P.wide (P.at_ + 1)).err, (clockP s P.wide (P.at_ + 1)).place⟩) := Lib.hid (by rw [HE.out]; unfold parC; rw [if_neg hc])
  have CT : Hid (∀ w0, ScanAt (w.heap.size + 1) s (P.at_ : Int) w0 → Calls Tryz.prog 42 #[.pointer (some ⟨w.heap.size + 1, 0, none⟩), .int .u8 84] w0 fun e w' => e = .returned (.bool true) ∧ ScanAt (w.heap.size + 1) s ((P.at_ + 1 : Nat) : Int) w' ∧ Only (w.heap.size + 1) w0 w') := Lib.hid fun w0 h => by
      have q := cis_any (w.heap.size + 1) s P.at_ 84 w0 h hs
      rw [hT, isK_yes hT] at q
      exact q
  have CC := Lib.hid (fun w0 (h : ScanAt (w.heap.size + 1) s ((P.at_ + 1 : Nat) : Int) w0) => (cclock_any (w.heap.size + 1) s (P.at_ + 1) P.wide w0 h (isB_lt hT) hs).mono fun e w' h => h.box hc hp)
  have HX0 := Lib.hid hc
  have HX1 : Hid (0 ≤ (clockP s P.wide (P.at_ + 1)).place) := Lib.hid (clockP_place hp)
  obtain ⟨C, hC⟩ : ∃ C, clockP s P.wide (P.at_ + 1) = C := ⟨_, rfl⟩; rw [hC] at CC HX0 HX1 HP
  clear hx hT hc hp hP hC
  go_enter Tryz.func19, Tryz.ntmps19
  go_wp2_with (first
    | (go_at_call 41; (with_reducible refine CD.out.mono ?_); rintro e w1 ⟨rfl, hS, hO⟩; have HL1 := Lib.hid (HW2.out.2.1.only hO (by omega)); have HB1 := Lib.hid (hO.new HW2.out.2.2 (by omega)); have HS1 := Lib.hid hS; have HZ1 := Lib.hid hS.1; clear hS hO)
    | (go_at_call 42; (with_reducible refine (CT.out _ (HS1.out.alloc _)).mono ?_); rintro e w2 ⟨rfl, hS, hO⟩; have HL2 := Lib.hid ((HL1.out.call ((Below.refl _ _).alloc (Nat.le_refl _) _)).only hO (by omega)); have HB2 := Lib.hid (hO.new (HB1.out.alloc HB1.out.size _) (by omega)); have HS2 := Lib.hid hS; clear hS hO)
    | (go_at_call 43; (with_reducible refine (CC.out _ HS2.out).mono ?_); rintro e w3 ⟨Kc, p, rfl, hX, hS, hO⟩; have HXB := Lib.hid (hX.mono (C := w.heap.size + 1) HL2.out.1); have HL3 := Lib.hid (HL2.out.only hO (by omega)); have HB3 := Lib.hid (HB2.out.trans (hO.1.mono (by omega))); obtain ⟨-, ⟨c0, f0⟩, ⟨c1, f1⟩, ⟨c2, f2⟩⟩ := HL3.out; clear hX hS hO))
  have hq := (((HL3.out).put0 (0)).put1 (0)).put2 (0)
  exact bodyPost_ret (v := .tuple #[.agg #[.int .i64 (0), .int .i64 (0), .int .i64 (0)], .iface 105 (.pointer (some ⟨p, 0, none⟩))]) (by simp [results, Tryz.results19, go_sem, hq.2.1.1, hq.2.2.1.1, hq.2.2.2.1]) rfl ⟨below_set3 HB3.out _ _ _, _, by rw [HP.out], by rw [HP.out]; exact .inr (.inr ⟨HX0.out, HX1.out, HXB.out.set3 _ _ _⟩)⟩
set_option maxRecDepth 100000 in
set_option maxHeartbeats 8000000 in
theorem cparseS_zerrno (s : ByteArray) (w : World) (hr : RomanT w) (hs : s.size ≤ 9223372036854775807) (P : DayP) (C : CkP) (Z : ZnP) (hP : dayP s 0 = P) (hC : clockP s P.wide (P.at_ + 1) = C) (hZ : zoneP s P.wide C.at_ = Z) (hx : P.err = 0) (hT : isB s P.at_ 84 = true)
    (hc : C.err = 0) (hz : Z.err ≠ 0) (hp : Z.place = -1) :
    Calls Tryz.prog 19 #[.string s] w (StPost2 (parP s) w) := by
  have HW2 : Hid (ScanAt (w.heap.size + 1) s ((0 : Nat) : Int) ((w.alloc (.cells #[.int .i64 0, .int .i64 0, .int .i64 0] 24)).alloc (.cells #[.string s, .int .i64 0] 93)) ∧ L3 w.heap.size 0 0 0 ((w.alloc (.cells #[.int .i64 0, .int .i64 0, .int .i64 0] 24)).alloc (.cells #[.string s, .int .i64 0] 93)) ∧ Below w.heap.size w ((w.alloc (.cells #[.int .i64 0, .int .i64 0, .int .i64 0] 24)).alloc (.cells #[.string s, .int .i64 0] 93))) := Lib.hid (by
    have q := ScanAt.new (w.alloc (.cells #[.int .i64 0, .int .i64 0, .int .i64 0] 24)) s ((0 : Nat) : Int) 93
    rw [World.size_alloc] at q
    exact ⟨q, (L3.new w _).call ((Below.refl _ _).alloc (Nat.le_refl _) _), ((Below.refl _ _).alloc (Nat.le_refl _) _).alloc (by simp) _⟩)
  have HRB : Hid (2 < w.heap.size + 1) := Lib.hid (Nat.lt_succ_of_lt hr.lt)
  have HRM2 : Hid (RomanT ((w.alloc (.cells #[.int .i64 0, .int .i64 0, .int .i64 0] 24)).alloc (.cells #[.string s, .int .i64 0] 93))) := Lib.hid (hr.call HW2.out.2.2)
  clear hr
  have CD := Lib.hid ((cday_any (w.heap.size + 1) s 0 ((w.alloc (.cells #[.int .i64 0, .int .i64 0, .int .i64 0] 24)).alloc (.cells #[.string s, .int .i64 0] 93)) HRM2.out HRB.out HW2.out.1 (by omega) hs).mono fun e w' h => h.ok (by rw [hP]; exact hx))
  rw [hP] at CD
  have HP : Hid (parP s = ⟨0, 0, 0, Z.err, Z.place⟩) := Lib.hid (by unfold parP parD; rw [hP, if_pos hx, if_pos hT, hC]; unfold parC; rw [if_pos hc, hZ, if_neg hz])
  have CT : Hid (∀ w0, ScanAt (w.heap.size + 1) s (P.at_ : Int) w0 → Calls Tryz.prog 42 #[.pointer (some ⟨w.heap.size + 1, 0, none⟩), .int .u8 84] w0 fun e w' => e = .returned (.bool true) ∧ ScanAt (w.heap.size + 1) s ((P.at_ + 1 : Nat) : Int) w' ∧ Only (w.heap.size + 1) w0 w') := Lib.hid fun w0 h => by
      have q := cis_any (w.heap.size + 1) s P.at_ 84 w0 h hs
      rw [hT, isK_yes hT] at q
      exact q
  have CC : Hid (∀ w0, ScanAt (w.heap.size + 1) s ((P.at_ + 1 : Nat) : Int) w0 → Calls Tryz.prog 43 #[.pointer (some ⟨w.heap.size + 1, 0, none⟩), .bool P.wide] w0 fun e w' => e = .returned (.tuple #[.int .i64 C.sec, .nilIface]) ∧ ScanAt (w.heap.size + 1) s (C.at_ : Int) w' ∧ Only (w.heap.size + 1) w0 w') := Lib.hid (fun w0 h => (cclock_any (w.heap.size + 1) s (P.at_ + 1) P.wide w0 h (isB_lt hT) hs).mono fun e w' h => hC ▸ h.ok (by rw [hC]; exact hc))
  have CZ := Lib.hid (fun w0 (h : ScanAt (w.heap.size + 1) s (C.at_ : Int) w0) => (czone_any (w.heap.size + 1) s C.at_ P.wide w0 h hs).mono fun e w' h => (hZ ▸ h).errno hz hp)
  have HX0 := Lib.hid hz; have HX1 := Lib.hid hp
  clear hx hT hc hz hp hP hC hZ
  go_enter Tryz.func19, Tryz.ntmps19
  go_wp2_with (first
    | (go_at_call 41; (with_reducible refine CD.out.mono ?_); rintro e w1 ⟨rfl, hS, hO⟩; have HL1 := Lib.hid (HW2.out.2.1.only hO (by omega)); have HB1 := Lib.hid (hO.new HW2.out.2.2 (by omega)); have HS1 := Lib.hid hS; have HZ1 := Lib.hid hS.1; clear hS hO)
    | (go_at_call 42; (with_reducible refine (CT.out _ (HS1.out.alloc _)).mono ?_); rintro e w2 ⟨rfl, hS, hO⟩; have HL2 := Lib.hid ((HL1.out.call ((Below.refl _ _).alloc (Nat.le_refl _) _)).only hO (by omega)); have HB2 := Lib.hid (hO.new (HB1.out.alloc HB1.out.size _) (by omega)); have HS2 := Lib.hid hS; have HM2 := Lib.hid ((L3.new w1 24).only hO (Nat.ne_of_gt HZ1.out)); clear hS hO)
    | (go_at_call 43; (with_reducible refine (CC.out _ HS2.out).mono ?_); rintro e w3 ⟨rfl, hS, hO⟩; have HL3 := Lib.hid (HL2.out.only hO (by omega)); have HB3 := Lib.hid (HB2.out.trans (hO.1.mono (by omega))); have HS3 := Lib.hid hS; have HM3 := Lib.hid (HM2.out.only hO (Nat.ne_of_gt HZ1.out)); clear hS hO)
    | (go_at_call 44; (with_reducible refine (CZ.out _ HS3.out).mono ?_); rintro e w4 ⟨Kz, Oz, rfl, hS, hO⟩; have hL4 := HL3.out.only hO (by omega); have hM4 := HM3.out.only hO (Nat.ne_of_gt HZ1.out); have hne : w1.heap.size ≠ w.heap.size := (by have := HL1.out.1; omega); have HLS := Lib.hid ((hL4.far (p := ⟨w1.heap.size, 1, none⟩) hne (.int .i64 Kz)).far (p := ⟨w1.heap.size, 2, none⟩) hne (.int .i64 Oz)); have HBS := Lib.hid (((HB3.out.trans (hO.1.mono (by omega))).setCell (p := ⟨w1.heap.size, 1, none⟩) HB1.out.size (.int .i64 Kz)).setCell (p := ⟨w1.heap.size, 2, none⟩) HB1.out.size (.int .i64 Oz)); obtain ⟨-, ⟨c0, f0⟩, ⟨c1, f1⟩, ⟨c2, f2⟩⟩ := hL4; obtain ⟨-, ⟨m0, n0⟩, ⟨m1, n1⟩, ⟨m2, n2⟩⟩ := hM4; clear hS hO))
  have hq := (((HLS.out).put0 (0)).put1 (0)).put2 (0)
  exact bodyPost_ret (v := .tuple #[.agg #[.int .i64 (0), .int .i64 (0), .int .i64 (0)], .iface 25 (.int .i64 Z.err)]) (by simp [results, Tryz.results19, go_sem, hq.2.1.1, hq.2.2.1.1, hq.2.2.2.1]) rfl ⟨below_set3 HBS.out _ _ _, _, by rw [HP.out], by rw [HP.out]; exact .inr (.inl ⟨HX0.out, HX1.out, rfl⟩)⟩
set_option maxRecDepth 100000 in
set_option maxHeartbeats 8000000 in
theorem cparseS_zbox (s : ByteArray) (w : World) (hr : RomanT w) (hs : s.size ≤ 9223372036854775807) (P : DayP) (C : CkP) (Z : ZnP) (hP : dayP s 0 = P) (hC : clockP s P.wide (P.at_ + 1) = C) (hZ : zoneP s P.wide C.at_ = Z) (hx : P.err = 0) (hT : isB s P.at_ 84 = true)
    (hc : C.err = 0) (hz : Z.err ≠ 0) (hp : Z.place ≠ -1) (hp2 : 0 ≤ Z.place) :
    Calls Tryz.prog 19 #[.string s] w (StPost2 (parP s) w) := by
  have HW2 : Hid (ScanAt (w.heap.size + 1) s ((0 : Nat) : Int) ((w.alloc (.cells #[.int .i64 0, .int .i64 0, .int .i64 0] 24)).alloc (.cells #[.string s, .int .i64 0] 93)) ∧ L3 w.heap.size 0 0 0 ((w.alloc (.cells #[.int .i64 0, .int .i64 0, .int .i64 0] 24)).alloc (.cells #[.string s, .int .i64 0] 93)) ∧ Below w.heap.size w ((w.alloc (.cells #[.int .i64 0, .int .i64 0, .int .i64 0] 24)).alloc (.cells #[.string s, .int .i64 0] 93))) := Lib.hid (by
    have q := ScanAt.new (w.alloc (.cells #[.int .i64 0, .int .i64 0, .int .i64 0] 24)) s ((0 : Nat) : Int) 93
    rw [World.size_alloc] at q
    exact ⟨q, (L3.new w _).call ((Below.refl _ _).alloc (Nat.le_refl _) _), ((Below.refl _ _).alloc (Nat.le_refl _) _).alloc (by simp) _⟩)
  have HRB : Hid (2 < w.heap.size + 1) := Lib.hid (Nat.lt_succ_of_lt hr.lt)
  have HRM2 : Hid (RomanT ((w.alloc (.cells #[.int .i64 0, .int .i64 0, .int .i64 0] 24)).alloc (.cells #[.string s, .int .i64 0] 93))) := Lib.hid (hr.call HW2.out.2.2)
  clear hr
  have CD := Lib.hid ((cday_any (w.heap.size + 1) s 0 ((w.alloc (.cells #[.int .i64 0, .int .i64 0, .int .i64 0] 24)).alloc (.cells #[.string s, .int .i64 0] 93)) HRM2.out HRB.out HW2.out.1 (by omega) hs).mono fun e w' h => h.ok (by rw [hP]; exact hx))
  rw [hP] at CD
  have HP : Hid (parP s = ⟨0, 0, 0, Z.err, Z.place⟩) := Lib.hid (by unfold parP parD; rw [hP, if_pos hx, if_pos hT, hC]; unfold parC; rw [if_pos hc, hZ, if_neg hz])
  have CT : Hid (∀ w0, ScanAt (w.heap.size + 1) s (P.at_ : Int) w0 → Calls Tryz.prog 42 #[.pointer (some ⟨w.heap.size + 1, 0, none⟩), .int .u8 84] w0 fun e w' => e = .returned (.bool true) ∧ ScanAt (w.heap.size + 1) s ((P.at_ + 1 : Nat) : Int) w' ∧ Only (w.heap.size + 1) w0 w') := Lib.hid fun w0 h => by
      have q := cis_any (w.heap.size + 1) s P.at_ 84 w0 h hs
      rw [hT, isK_yes hT] at q
      exact q
  have CC : Hid (∀ w0, ScanAt (w.heap.size + 1) s ((P.at_ + 1 : Nat) : Int) w0 → Calls Tryz.prog 43 #[.pointer (some ⟨w.heap.size + 1, 0, none⟩), .bool P.wide] w0 fun e w' => e = .returned (.tuple #[.int .i64 C.sec, .nilIface]) ∧ ScanAt (w.heap.size + 1) s (C.at_ : Int) w' ∧ Only (w.heap.size + 1) w0 w') := Lib.hid (fun w0 h => (cclock_any (w.heap.size + 1) s (P.at_ + 1) P.wide w0 h (isB_lt hT) hs).mono fun e w' h => hC ▸ h.ok (by rw [hC]; exact hc))
  have CZ := Lib.hid (fun w0 (h : ScanAt (w.heap.size + 1) s (C.at_ : Int) w0) => (czone_any (w.heap.size + 1) s C.at_ P.wide w0 h hs).mono fun e w' h => (hZ ▸ h).box hz hp)
  have HX0 := Lib.hid hz; have HX1 := Lib.hid hp2
  clear hx hT hc hz hp hP hC hZ hp2
  go_enter Tryz.func19, Tryz.ntmps19
  go_wp2_with (first
    | (go_at_call 41; (with_reducible refine CD.out.mono ?_); rintro e w1 ⟨rfl, hS, hO⟩; have HL1 := Lib.hid (HW2.out.2.1.only hO (by omega)); have HB1 := Lib.hid (hO.new HW2.out.2.2 (by omega)); have HS1 := Lib.hid hS; have HZ1 := Lib.hid hS.1; clear hS hO)
    | (go_at_call 42; (with_reducible refine (CT.out _ (HS1.out.alloc _)).mono ?_); rintro e w2 ⟨rfl, hS, hO⟩; have HL2 := Lib.hid ((HL1.out.call ((Below.refl _ _).alloc (Nat.le_refl _) _)).only hO (by omega)); have HB2 := Lib.hid (hO.new (HB1.out.alloc HB1.out.size _) (by omega)); have HS2 := Lib.hid hS; have HM2 := Lib.hid ((L3.new w1 24).only hO (Nat.ne_of_gt HZ1.out)); clear hS hO)
    | (go_at_call 43; (with_reducible refine (CC.out _ HS2.out).mono ?_); rintro e w3 ⟨rfl, hS, hO⟩; have HL3 := Lib.hid (HL2.out.only hO (by omega)); have HB3 := Lib.hid (HB2.out.trans (hO.1.mono (by omega))); have HS3 := Lib.hid hS; have HM3 := Lib.hid (HM2.out.only hO (Nat.ne_of_gt HZ1.out)); clear hS hO)
    | (go_at_call 44; (with_reducible refine (CZ.out _ HS3.out).mono ?_); rintro e w4 ⟨Kz, Oz, p, rfl, hX, hS, hO⟩; have HXB := Lib.hid (((hX.set (q := ⟨w1.heap.size, 1, none⟩) HM3.out.1 (.int .i64 Kz)).set (q := ⟨w1.heap.size, 2, none⟩) HM3.out.1 (.int .i64 Oz)).mono (C := w.heap.size + 1) HL3.out.1); clear hX; have hL4 := HL3.out.only hO (by omega); have hM4 := HM3.out.only hO (Nat.ne_of_gt HZ1.out); have hne : w1.heap.size ≠ w.heap.size := (by have := HL1.out.1; omega); have HLS := Lib.hid ((hL4.far (p := ⟨w1.heap.size, 1, none⟩) hne (.int .i64 Kz)).far (p := ⟨w1.heap.size, 2, none⟩) hne (.int .i64 Oz)); have HBS := Lib.hid (((HB3.out.trans (hO.1.mono (by omega))).setCell (p := ⟨w1.heap.size, 1, none⟩) HB1.out.size (.int .i64 Kz)).setCell (p := ⟨w1.heap.size, 2, none⟩) HB1.out.size (.int .i64 Oz)); obtain ⟨-, ⟨c0, f0⟩, ⟨c1, f1⟩, ⟨c2, f2⟩⟩ := hL4; obtain ⟨-, ⟨m0, n0⟩, ⟨m1, n1⟩, ⟨m2, n2⟩⟩ := hM4; clear hS hO))
  have hq := (((HLS.out).put0 (0)).put1 (0)).put2 (0)
  exact bodyPost_ret (v := .tuple #[.agg #[.int .i64 (0), .int .i64 (0), .int .i64 (0)], .iface 105 (.pointer (some ⟨p, 0, none⟩))]) (by simp [results, Tryz.results19, go_sem, hq.2.1.1, hq.2.2.1.1, hq.2.2.2.1]) rfl ⟨below_set3 HBS.out _ _ _, _, by rw [HP.out], by rw [HP.out]; exact .inr (.inr ⟨HX0.out, HX1.out, HXB.out.set3 _ _ _⟩)⟩
set_option maxRecDepth 100000 in
set_option maxHeartbeats 8000000 in
theorem cparseS_Tfull (s : ByteArray) (w : World) (hr : RomanT w) (hs : s.size ≤ 9223372036854775807) (P : DayP) (C : CkP) (Z : ZnP) (hP : dayP s 0 = P) (hC : clockP s P.wide (P.at_ + 1) = C) (hZ : zoneP s P.wide C.at_ = Z) (hx : P.err = 0) (hT : isB s P.at_ 84 = true) (hfull : C.sec = 86400)
    (hc : C.err = 0) (hz : Z.err = 0) :
    Calls Tryz.prog 19 #[.string s] w (StPost2 (parP s) w) := by
  have HW2 : Hid (ScanAt (w.heap.size + 1) s ((0 : Nat) : Int) ((w.alloc (.cells #[.int .i64 0, .int .i64 0, .int .i64 0] 24)).alloc (.cells #[.string s, .int .i64 0] 93)) ∧ L3 w.heap.size 0 0 0 ((w.alloc (.cells #[.int .i64 0, .int .i64 0, .int .i64 0] 24)).alloc (.cells #[.string s, .int .i64 0] 93)) ∧ Below w.heap.size w ((w.alloc (.cells #[.int .i64 0, .int .i64 0, .int .i64 0] 24)).alloc (.cells #[.string s, .int .i64 0] 93))) := Lib.hid (by
    have q := ScanAt.new (w.alloc (.cells #[.int .i64 0, .int .i64 0, .int .i64 0] 24)) s ((0 : Nat) : Int) 93
    rw [World.size_alloc] at q
    exact ⟨q, (L3.new w _).call ((Below.refl _ _).alloc (Nat.le_refl _) _), ((Below.refl _ _).alloc (Nat.le_refl _) _).alloc (by simp) _⟩)
  have HRB : Hid (2 < w.heap.size + 1) := Lib.hid (Nat.lt_succ_of_lt hr.lt)
  have HRM2 : Hid (RomanT ((w.alloc (.cells #[.int .i64 0, .int .i64 0, .int .i64 0] 24)).alloc (.cells #[.string s, .int .i64 0] 93))) := Lib.hid (hr.call HW2.out.2.2)
  clear hr
  have CD := Lib.hid ((cday_any (w.heap.size + 1) s 0 ((w.alloc (.cells #[.int .i64 0, .int .i64 0, .int .i64 0] 24)).alloc (.cells #[.string s, .int .i64 0] 93)) HRM2.out HRB.out HW2.out.1 (by omega) hs).mono fun e w' h => h.ok (by rw [hP]; exact hx))
  rw [hP] at CD
  have HE : Hid (parP s = endP P.day C.sec Z.kind Z.off s.size Z.at_) := Lib.hid (by unfold parP parD; rw [hP, if_pos hx, if_pos hT, hC]; unfold parC; rw [if_pos hc, hZ, if_pos hz])
  have CT : Hid (∀ w0, ScanAt (w.heap.size + 1) s (P.at_ : Int) w0 → Calls Tryz.prog 42 #[.pointer (some ⟨w.heap.size + 1, 0, none⟩), .int .u8 84] w0 fun e w' => e = .returned (.bool true) ∧ ScanAt (w.heap.size + 1) s ((P.at_ + 1 : Nat) : Int) w' ∧ Only (w.heap.size + 1) w0 w') := Lib.hid fun w0 h => by
      have q := cis_any (w.heap.size + 1) s P.at_ 84 w0 h hs
      rw [hT, isK_yes hT] at q
      exact q
  have CC : Hid (∀ w0, ScanAt (w.heap.size + 1) s ((P.at_ + 1 : Nat) : Int) w0 → Calls Tryz.prog 43 #[.pointer (some ⟨w.heap.size + 1, 0, none⟩), .bool P.wide] w0 fun e w' => e = .returned (.tuple #[.int .i64 C.sec, .nilIface]) ∧ ScanAt (w.heap.size + 1) s (C.at_ : Int) w' ∧ Only (w.heap.size + 1) w0 w') := Lib.hid (fun w0 h => (cclock_any (w.heap.size + 1) s (P.at_ + 1) P.wide w0 h (isB_lt hT) hs).mono fun e w' h => hC ▸ h.ok (by rw [hC]; exact hc))
  have CZ := Lib.hid (fun w0 (h : ScanAt (w.heap.size + 1) s (C.at_ : Int) w0) => (czone_any (w.heap.size + 1) s C.at_ P.wide w0 h hs).mono fun e w' h => (hZ ▸ h).ok hz)
  obtain ⟨D, hD⟩ : ∃ x, P.day = x := ⟨_, rfl⟩
  obtain ⟨SC, hSC⟩ : ∃ x, C.sec = x := ⟨_, rfl⟩
  obtain ⟨ZK, hZK⟩ : ∃ x, Z.kind = x := ⟨_, rfl⟩
  obtain ⟨ZO, hZO⟩ : ∃ x, Z.off = x := ⟨_, rfl⟩
  obtain ⟨K, hK⟩ : ∃ x, Z.at_ = x := ⟨_, rfl⟩
  rw [hD, hSC, hZK, hZO, hK] at HE; rw [hD] at CD; rw [hSC] at CC hfull; rw [hZK, hZO, hK] at CZ
  have hDb := dayP_bd (s := s); rw [hP, hD] at hDb; have hDb2 := hDb hx; clear hDb; obtain ⟨db1, db2⟩ := hDb2
  clear hx hT hc hz hP hC hZ hD hSC hZK hZO hK
  have hfb : (SC == 86400) = true := by simpa using hfull
  by_cases hlt : K < s.size
  · have HP : Hid (parP s = ⟨0, 0, 0, 5, ((K : Nat) : Int)⟩) := Lib.hid (by rw [HE.out]; unfold endP; rw [if_pos hlt])
    have hld : decide (K < s.size) = true := decide_eq_true hlt; have hldi : decide (((K : Nat) : Int) < (s.size : Int)) = true := decide_eq_true (by omega)
    have CB := Lib.hid (fun w0 (h : ScanAt (w.heap.size + 1) s ((K : Nat) : Int) w0) => bad_any (w.heap.size + 1) s (K) w0 h)
    unfold BadPost at CB
    have HX0 : Hid ((5 : Int) ≠ 0) := Lib.hid five_ne; have HX1 : Hid (0 ≤ ((K : Nat) : Int)) := Lib.hid (Int.natCast_nonneg _)
    go_enter Tryz.func19, Tryz.ntmps19
    go_wp2_with (first
      | (go_at_call 41; (with_reducible refine CD.out.mono ?_); rintro e w1 ⟨rfl, hS, hO⟩; have HL1 := Lib.hid (HW2.out.2.1.only hO (by omega)); have HB1 := Lib.hid (hO.new HW2.out.2.2 (by omega)); have HS1 := Lib.hid hS; have HZ1 := Lib.hid hS.1; clear hS hO)
      | (go_at_call 42; (with_reducible refine (CT.out _ (HS1.out.alloc _)).mono ?_); rintro e w2 ⟨rfl, hS, hO⟩; have HL2 := Lib.hid ((HL1.out.call ((Below.refl _ _).alloc (Nat.le_refl _) _)).only hO (by omega)); have HB2 := Lib.hid (hO.new (HB1.out.alloc HB1.out.size _) (by omega)); have HS2 := Lib.hid hS; have HM2 := Lib.hid ((L3.new w1 24).only hO (Nat.ne_of_gt HZ1.out)); clear hS hO)
      | (go_at_call 43; (with_reducible refine (CC.out _ HS2.out).mono ?_); rintro e w3 ⟨rfl, hS, hO⟩; have HL3 := Lib.hid (HL2.out.only hO (by omega)); have HB3 := Lib.hid (HB2.out.trans (hO.1.mono (by omega))); have HS3 := Lib.hid hS; have HM3 := Lib.hid (HM2.out.only hO (Nat.ne_of_gt HZ1.out)); clear hS hO)
      | (go_at_call 44; (with_reducible refine (CZ.out _ HS3.out).mono ?_); rintro e w4 ⟨rfl, hS, hO⟩; have HS4 := Lib.hid (ScanAt.off (ScanAt.off hS ⟨w1.heap.size, 1, none⟩ (Nat.ne_of_gt HZ1.out) (.int .i64 ZK)) ⟨w1.heap.size, 2, none⟩ (Nat.ne_of_gt HZ1.out) (.int .i64 ZO)); obtain ⟨-, k0, k1, -⟩ := hS; have hnb : w1.heap.size ≠ w.heap.size + 1 := (by have := HZ1.out; omega); have hL4 := HL3.out.only hO (by omega); have hM4 := HM3.out.only hO (Nat.ne_of_gt HZ1.out); have hM4q := hM4; have hne : w1.heap.size ≠ w.heap.size := (by have := HL1.out.1; omega); have HLS := Lib.hid ((hL4.far (p := ⟨w1.heap.size, 1, none⟩) hne (.int .i64 ZK)).far (p := ⟨w1.heap.size, 2, none⟩) hne (.int .i64 ZO)); have HBS := Lib.hid (((HB3.out.trans (hO.1.mono (by omega))).setCell (p := ⟨w1.heap.size, 1, none⟩) HB1.out.size (.int .i64 ZK)).setCell (p := ⟨w1.heap.size, 2, none⟩) HB1.out.size (.int .i64 ZO)); obtain ⟨-, ⟨c0, f0⟩, ⟨c1, f1⟩, ⟨c2, f2⟩⟩ := hL4; obtain ⟨-, ⟨m0, n0⟩, ⟨m1, n1⟩, ⟨m2, n2⟩⟩ := hM4; have HMS := Lib.hid ((hM4q.put1 ZK).put2 ZO); clear hO)
      | (go_at_call 45; (with_reducible refine (CB.out _ HS4.out).mono ?_); rintro e wz ⟨p, rfl, hX, hb⟩; have HXB := Lib.hid (hX.mono (C := w.heap.size + 1) (by have := HLS.out.1; omega)); have HLZ := Lib.hid (HLS.out.call hb); have HBZ := Lib.hid (thenB HBS.out hb); obtain ⟨-, ⟨c0, f0⟩, ⟨c1, f1⟩, ⟨c2, f2⟩⟩ := HLZ.out; clear hX hb))
    have hq := (((HLZ.out).put0 (0)).put1 (0)).put2 (0)
    exact bodyPost_ret (v := .tuple #[.agg #[.int .i64 (0), .int .i64 (0), .int .i64 (0)], .iface 105 (.pointer (some ⟨p, 0, none⟩))]) (by simp [results, Tryz.results19, go_sem, hq.2.1.1, hq.2.2.1.1, hq.2.2.2.1]) rfl ⟨below_set3 HBZ.out _ _ _, _, by rw [HP.out], by rw [HP.out]; exact .inr (.inr ⟨HX0.out, HX1.out, HXB.out.set3 _ _ _⟩)⟩
  · have hld : decide (K < s.size) = false := decide_eq_false hlt; have hldi : decide (((K : Nat) : Int) < (s.size : Int)) = false := decide_eq_false (by omega)
    have HF := Lib.hid (join_all (D + 1) 0)
    by_cases hj : joinE (D + 1) 0 = 0
    · have HP : Hid (parP s = ⟨joinR (D + 1) 0, ZK, ZO, 0, -1⟩) := Lib.hid (by rw [HE.out]; unfold endP; rw [if_neg hlt]; simp [hj, hfull])
      have CJ : Hid (∀ w0, Calls Tryz.prog 46 #[.int .i64 (D + 1), .int .i64 0] w0 fun e w' => e = .returned (.tuple #[.int .i64 (joinR (D + 1) 0), .nilIface]) ∧ w0 = w') := Lib.hid fun w0 => (HF.out w0).mono fun e w' ⟨h1, h2⟩ => ⟨by rw [h1, hj]; rfl, h2⟩
      obtain ⟨J, hJ⟩ : ∃ J, joinR (D + 1) 0 = J := ⟨_, rfl⟩; rw [hJ] at CJ HP; clear hJ hj
      go_enter Tryz.func19, Tryz.ntmps19
      go_wp2_with (first
        | (go_at_call 41; (with_reducible refine CD.out.mono ?_); rintro e w1 ⟨rfl, hS, hO⟩; have HL1 := Lib.hid (HW2.out.2.1.only hO (by omega)); have HB1 := Lib.hid (hO.new HW2.out.2.2 (by omega)); have HS1 := Lib.hid hS; have HZ1 := Lib.hid hS.1; clear hS hO)
        | (go_at_call 42; (with_reducible refine (CT.out _ (HS1.out.alloc _)).mono ?_); rintro e w2 ⟨rfl, hS, hO⟩; have HL2 := Lib.hid ((HL1.out.call ((Below.refl _ _).alloc (Nat.le_refl _) _)).only hO (by omega)); have HB2 := Lib.hid (hO.new (HB1.out.alloc HB1.out.size _) (by omega)); have HS2 := Lib.hid hS; have HM2 := Lib.hid ((L3.new w1 24).only hO (Nat.ne_of_gt HZ1.out)); clear hS hO)
        | (go_at_call 43; (with_reducible refine (CC.out _ HS2.out).mono ?_); rintro e w3 ⟨rfl, hS, hO⟩; have HL3 := Lib.hid (HL2.out.only hO (by omega)); have HB3 := Lib.hid (HB2.out.trans (hO.1.mono (by omega))); have HS3 := Lib.hid hS; have HM3 := Lib.hid (HM2.out.only hO (Nat.ne_of_gt HZ1.out)); clear hS hO)
        | (go_at_call 44; (with_reducible refine (CZ.out _ HS3.out).mono ?_); rintro e w4 ⟨rfl, hS, hO⟩; have HS4 := Lib.hid (ScanAt.off (ScanAt.off hS ⟨w1.heap.size, 1, none⟩ (Nat.ne_of_gt HZ1.out) (.int .i64 ZK)) ⟨w1.heap.size, 2, none⟩ (Nat.ne_of_gt HZ1.out) (.int .i64 ZO)); obtain ⟨-, k0, k1, -⟩ := hS; have hnb : w1.heap.size ≠ w.heap.size + 1 := (by have := HZ1.out; omega); have hL4 := HL3.out.only hO (by omega); have hM4 := HM3.out.only hO (Nat.ne_of_gt HZ1.out); have hM4q := hM4; have hne : w1.heap.size ≠ w.heap.size := (by have := HL1.out.1; omega); have HLS := Lib.hid ((hL4.far (p := ⟨w1.heap.size, 1, none⟩) hne (.int .i64 ZK)).far (p := ⟨w1.heap.size, 2, none⟩) hne (.int .i64 ZO)); have HBS := Lib.hid (((HB3.out.trans (hO.1.mono (by omega))).setCell (p := ⟨w1.heap.size, 1, none⟩) HB1.out.size (.int .i64 ZK)).setCell (p := ⟨w1.heap.size, 2, none⟩) HB1.out.size (.int .i64 ZO)); obtain ⟨-, ⟨c0, f0⟩, ⟨c1, f1⟩, ⟨c2, f2⟩⟩ := hL4; obtain ⟨-, ⟨m0, n0⟩, ⟨m1, n1⟩, ⟨m2, n2⟩⟩ := hM4; have HMS := Lib.hid ((hM4q.put1 ZK).put2 ZO); clear hO)
        | (go_at_call 46; (with_reducible refine (CJ.out _).mono ?_); rintro e wj ⟨rfl, rfl⟩; have hne : w1.heap.size ≠ w.heap.size := (by have := HL1.out.1; omega); have HLS := Lib.hid (HLS.out.far (p := ⟨w1.heap.size, 0, none⟩) hne (.int .i64 J)); have HBS := Lib.hid (HBS.out.setCell (p := ⟨w1.heap.size, 0, none⟩) HB1.out.size (.int .i64 J)); obtain ⟨-, ⟨c0, f0⟩, ⟨c1, f1⟩, ⟨c2, f2⟩⟩ := HLS.out; obtain ⟨-, ⟨m0, n0⟩, ⟨m1, n1⟩, ⟨m2, n2⟩⟩ := HMS.out))
      have hq := (((HLS.out).put0 (J)).put1 (ZK)).put2 (ZO)
      exact bodyPost_ret (v := .tuple #[.agg #[.int .i64 (J), .int .i64 (ZK), .int .i64 (ZO)], .nilIface]) (by simp [results, Tryz.results19, go_sem, hq.2.1.1, hq.2.2.1.1, hq.2.2.2.1]) rfl ⟨below_set3 HBS.out _ _ _, _, by rw [HP.out], by rw [HP.out]; exact .inl ⟨rfl, rfl, rfl⟩⟩
    · have HP : Hid (parP s = ⟨0, 0, 0, joinE (D + 1) 0, -1⟩) := Lib.hid (by rw [HE.out]; unfold endP; rw [if_neg hlt]; simp [hj, hfull])
      have CJ : Hid (∀ w0, Calls Tryz.prog 46 #[.int .i64 (D + 1), .int .i64 0] w0 fun e w' => e = .returned (.tuple #[.int .i64 (joinR (D + 1) 0), .iface 25 (.int .i64 (joinE (D + 1) 0))]) ∧ w0 = w') := Lib.hid fun w0 => (HF.out w0).mono fun e w' ⟨h1, h2⟩ => ⟨by rw [h1, errV_hit hj], h2⟩
      have HX0 := Lib.hid hj
      obtain ⟨J, hJ⟩ : ∃ J, joinR (D + 1) 0 = J := ⟨_, rfl⟩; rw [hJ] at CJ; clear hJ hj
      go_enter Tryz.func19, Tryz.ntmps19
      go_wp2_with (first
        | (go_at_call 41; (with_reducible refine CD.out.mono ?_); rintro e w1 ⟨rfl, hS, hO⟩; have HL1 := Lib.hid (HW2.out.2.1.only hO (by omega)); have HB1 := Lib.hid (hO.new HW2.out.2.2 (by omega)); have HS1 := Lib.hid hS; have HZ1 := Lib.hid hS.1; clear hS hO)
        | (go_at_call 42; (with_reducible refine (CT.out _ (HS1.out.alloc _)).mono ?_); rintro e w2 ⟨rfl, hS, hO⟩; have HL2 := Lib.hid ((HL1.out.call ((Below.refl _ _).alloc (Nat.le_refl _) _)).only hO (by omega)); have HB2 := Lib.hid (hO.new (HB1.out.alloc HB1.out.size _) (by omega)); have HS2 := Lib.hid hS; have HM2 := Lib.hid ((L3.new w1 24).only hO (Nat.ne_of_gt HZ1.out)); clear hS hO)
        | (go_at_call 43; (with_reducible refine (CC.out _ HS2.out).mono ?_); rintro e w3 ⟨rfl, hS, hO⟩; have HL3 := Lib.hid (HL2.out.only hO (by omega)); have HB3 := Lib.hid (HB2.out.trans (hO.1.mono (by omega))); have HS3 := Lib.hid hS; have HM3 := Lib.hid (HM2.out.only hO (Nat.ne_of_gt HZ1.out)); clear hS hO)
        | (go_at_call 44; (with_reducible refine (CZ.out _ HS3.out).mono ?_); rintro e w4 ⟨rfl, hS, hO⟩; have HS4 := Lib.hid (ScanAt.off (ScanAt.off hS ⟨w1.heap.size, 1, none⟩ (Nat.ne_of_gt HZ1.out) (.int .i64 ZK)) ⟨w1.heap.size, 2, none⟩ (Nat.ne_of_gt HZ1.out) (.int .i64 ZO)); obtain ⟨-, k0, k1, -⟩ := hS; have hnb : w1.heap.size ≠ w.heap.size + 1 := (by have := HZ1.out; omega); have hL4 := HL3.out.only hO (by omega); have hM4 := HM3.out.only hO (Nat.ne_of_gt HZ1.out); have hM4q := hM4; have hne : w1.heap.size ≠ w.heap.size := (by have := HL1.out.1; omega); have HLS := Lib.hid ((hL4.far (p := ⟨w1.heap.size, 1, none⟩) hne (.int .i64 ZK)).far (p := ⟨w1.heap.size, 2, none⟩) hne (.int .i64 ZO)); have HBS := Lib.hid (((HB3.out.trans (hO.1.mono (by omega))).setCell (p := ⟨w1.heap.size, 1, none⟩) HB1.out.size (.int .i64 ZK)).setCell (p := ⟨w1.heap.size, 2, none⟩) HB1.out.size (.int .i64 ZO)); obtain ⟨-, ⟨c0, f0⟩, ⟨c1, f1⟩, ⟨c2, f2⟩⟩ := hL4; obtain ⟨-, ⟨m0, n0⟩, ⟨m1, n1⟩, ⟨m2, n2⟩⟩ := hM4; have HMS := Lib.hid ((hM4q.put1 ZK).put2 ZO); clear hO)
        | (go_at_call 46; (with_reducible refine (CJ.out _).mono ?_); rintro e wj ⟨rfl, rfl⟩; have hne : w1.heap.size ≠ w.heap.size := (by have := HL1.out.1; omega); have HLS := Lib.hid (HLS.out.far (p := ⟨w1.heap.size, 0, none⟩) hne (.int .i64 J)); have HBS := Lib.hid (HBS.out.setCell (p := ⟨w1.heap.size, 0, none⟩) HB1.out.size (.int .i64 J)); obtain ⟨-, ⟨c0, f0⟩, ⟨c1, f1⟩, ⟨c2, f2⟩⟩ := HLS.out; obtain ⟨-, ⟨m0, n0⟩, ⟨m1, n1⟩, ⟨m2, n2⟩⟩ := HMS.out))
      have hq := (((HLS.out).put0 (0)).put1 (0)).put2 (0)
      exact bodyPost_ret (v := .tuple #[.agg #[.int .i64 (0), .int .i64 (0), .int .i64 (0)], .iface 25 (.int .i64 (joinE (D + 1) 0))]) (by simp [results, Tryz.results19, go_sem, hq.2.1.1, hq.2.2.1.1, hq.2.2.2.1]) rfl ⟨below_set3 HBS.out _ _ _, _, by rw [HP.out], by rw [HP.out]; exact .inr (.inl ⟨HX0.out, rfl, rfl⟩)⟩
set_option maxRecDepth 100000 in
set_option maxHeartbeats 8000000 in
theorem cparseS_Tpart (s : ByteArray) (w : World) (hr : RomanT w) (hs : s.size ≤ 9223372036854775807) (P : DayP) (C : CkP) (Z : ZnP) (hP : dayP s 0 = P) (hC : clockP s P.wide (P.at_ + 1) = C) (hZ : zoneP s P.wide C.at_ = Z) (hx : P.err = 0) (hT : isB s P.at_ 84 = true) (hfull : C.sec ≠ 86400)
    (hc : C.err = 0) (hz : Z.err = 0) :
    Calls Tryz.prog 19 #[.string s] w (StPost2 (parP s) w) := by
  have HW2 : Hid (ScanAt (w.heap.size + 1) s ((0 : Nat) : Int) ((w.alloc (.cells #[.int .i64 0, .int .i64 0, .int .i64 0] 24)).alloc (.cells #[.string s, .int .i64 0] 93)) ∧ L3 w.heap.size 0 0 0 ((w.alloc (.cells #[.int .i64 0, .int .i64 0, .int .i64 0] 24)).alloc (.cells #[.string s, .int .i64 0] 93)) ∧ Below w.heap.size w ((w.alloc (.cells #[.int .i64 0, .int .i64 0, .int .i64 0] 24)).alloc (.cells #[.string s, .int .i64 0] 93))) := Lib.hid (by
    have q := ScanAt.new (w.alloc (.cells #[.int .i64 0, .int .i64 0, .int .i64 0] 24)) s ((0 : Nat) : Int) 93
    rw [World.size_alloc] at q
    exact ⟨q, (L3.new w _).call ((Below.refl _ _).alloc (Nat.le_refl _) _), ((Below.refl _ _).alloc (Nat.le_refl _) _).alloc (by simp) _⟩)
  have HRB : Hid (2 < w.heap.size + 1) := Lib.hid (Nat.lt_succ_of_lt hr.lt)
  have HRM2 : Hid (RomanT ((w.alloc (.cells #[.int .i64 0, .int .i64 0, .int .i64 0] 24)).alloc (.cells #[.string s, .int .i64 0] 93))) := Lib.hid (hr.call HW2.out.2.2)
  clear hr
  have CD := Lib.hid ((cday_any (w.heap.size + 1) s 0 ((w.alloc (.cells #[.int .i64 0, .int .i64 0, .int .i64 0] 24)).alloc (.cells #[.string s, .int .i64 0] 93)) HRM2.out HRB.out HW2.out.1 (by omega) hs).mono fun e w' h => h.ok (by rw [hP]; exact hx))
  rw [hP] at CD
  have HE : Hid (parP s = endP P.day C.sec Z.kind Z.off s.size Z.at_) := Lib.hid (by unfold parP parD; rw [hP, if_pos hx, if_pos hT, hC]; unfold parC; rw [if_pos hc, hZ, if_pos hz])
  have CT : Hid (∀ w0, ScanAt (w.heap.size + 1) s (P.at_ : Int) w0 → Calls Tryz.prog 42 #[.pointer (some ⟨w.heap.size + 1, 0, none⟩), .int .u8 84] w0 fun e w' => e = .returned (.bool true) ∧ ScanAt (w.heap.size + 1) s ((P.at_ + 1 : Nat) : Int) w' ∧ Only (w.heap.size + 1) w0 w') := Lib.hid fun w0 h => by
      have q := cis_any (w.heap.size + 1) s P.at_ 84 w0 h hs
      rw [hT, isK_yes hT] at q
      exact q
  have CC : Hid (∀ w0, ScanAt (w.heap.size + 1) s ((P.at_ + 1 : Nat) : Int) w0 → Calls Tryz.prog 43 #[.pointer (some ⟨w.heap.size + 1, 0, none⟩), .bool P.wide] w0 fun e w' => e = .returned (.tuple #[.int .i64 C.sec, .nilIface]) ∧ ScanAt (w.heap.size + 1) s (C.at_ : Int) w' ∧ Only (w.heap.size + 1) w0 w') := Lib.hid (fun w0 h => (cclock_any (w.heap.size + 1) s (P.at_ + 1) P.wide w0 h (isB_lt hT) hs).mono fun e w' h => hC ▸ h.ok (by rw [hC]; exact hc))
  have CZ := Lib.hid (fun w0 (h : ScanAt (w.heap.size + 1) s (C.at_ : Int) w0) => (czone_any (w.heap.size + 1) s C.at_ P.wide w0 h hs).mono fun e w' h => (hZ ▸ h).ok hz)
  obtain ⟨D, hD⟩ : ∃ x, P.day = x := ⟨_, rfl⟩
  obtain ⟨SC, hSC⟩ : ∃ x, C.sec = x := ⟨_, rfl⟩
  obtain ⟨ZK, hZK⟩ : ∃ x, Z.kind = x := ⟨_, rfl⟩
  obtain ⟨ZO, hZO⟩ : ∃ x, Z.off = x := ⟨_, rfl⟩
  obtain ⟨K, hK⟩ : ∃ x, Z.at_ = x := ⟨_, rfl⟩
  rw [hD, hSC, hZK, hZO, hK] at HE; rw [hD] at CD; rw [hSC] at CC hfull; rw [hZK, hZO, hK] at CZ
  have hDb := dayP_bd (s := s); rw [hP, hD] at hDb; have hDb2 := hDb hx; clear hDb; obtain ⟨db1, db2⟩ := hDb2
  clear hx hT hc hz hP hC hZ hD hSC hZK hZO hK
  have hfb : (SC == 86400) = false := by simpa using hfull
  by_cases hlt : K < s.size
  · have HP : Hid (parP s = ⟨0, 0, 0, 5, ((K : Nat) : Int)⟩) := Lib.hid (by rw [HE.out]; unfold endP; rw [if_pos hlt])
    have hld : decide (K < s.size) = true := decide_eq_true hlt; have hldi : decide (((K : Nat) : Int) < (s.size : Int)) = true := decide_eq_true (by omega)
    have CB := Lib.hid (fun w0 (h : ScanAt (w.heap.size + 1) s ((K : Nat) : Int) w0) => bad_any (w.heap.size + 1) s (K) w0 h)
    unfold BadPost at CB
    have HX0 : Hid ((5 : Int) ≠ 0) := Lib.hid five_ne; have HX1 : Hid (0 ≤ ((K : Nat) : Int)) := Lib.hid (Int.natCast_nonneg _)
    go_enter Tryz.func19, Tryz.ntmps19
    go_wp2_with (first
      | (go_at_call 41; (with_reducible refine CD.out.mono ?_); rintro e w1 ⟨rfl, hS, hO⟩; have HL1 := Lib.hid (HW2.out.2.1.only hO (by omega)); have HB1 := Lib.hid (hO.new HW2.out.2.2 (by omega)); have HS1 := Lib.hid hS; have HZ1 := Lib.hid hS.1; clear hS hO)
      | (go_at_call 42; (with_reducible refine (CT.out _ (HS1.out.alloc _)).mono ?_); rintro e w2 ⟨rfl, hS, hO⟩; have HL2 := Lib.hid ((HL1.out.call ((Below.refl _ _).alloc (Nat.le_refl _) _)).only hO (by omega)); have HB2 := Lib.hid (hO.new (HB1.out.alloc HB1.out.size _) (by omega)); have HS2 := Lib.hid hS; have HM2 := Lib.hid ((L3.new w1 24).only hO (Nat.ne_of_gt HZ1.out)); clear hS hO)
      | (go_at_call 43; (with_reducible refine (CC.out _ HS2.out).mono ?_); rintro e w3 ⟨rfl, hS, hO⟩; have HL3 := Lib.hid (HL2.out.only hO (by omega)); have HB3 := Lib.hid (HB2.out.trans (hO.1.mono (by omega))); have HS3 := Lib.hid hS; have HM3 := Lib.hid (HM2.out.only hO (Nat.ne_of_gt HZ1.out)); clear hS hO)
      | (go_at_call 44; (with_reducible refine (CZ.out _ HS3.out).mono ?_); rintro e w4 ⟨rfl, hS, hO⟩; have HS4 := Lib.hid (ScanAt.off (ScanAt.off hS ⟨w1.heap.size, 1, none⟩ (Nat.ne_of_gt HZ1.out) (.int .i64 ZK)) ⟨w1.heap.size, 2, none⟩ (Nat.ne_of_gt HZ1.out) (.int .i64 ZO)); obtain ⟨-, k0, k1, -⟩ := hS; have hnb : w1.heap.size ≠ w.heap.size + 1 := (by have := HZ1.out; omega); have hL4 := HL3.out.only hO (by omega); have hM4 := HM3.out.only hO (Nat.ne_of_gt HZ1.out); have hM4q := hM4; have hne : w1.heap.size ≠ w.heap.size := (by have := HL1.out.1; omega); have HLS := Lib.hid ((hL4.far (p := ⟨w1.heap.size, 1, none⟩) hne (.int .i64 ZK)).far (p := ⟨w1.heap.size, 2, none⟩) hne (.int .i64 ZO)); have HBS := Lib.hid (((HB3.out.trans (hO.1.mono (by omega))).setCell (p := ⟨w1.heap.size, 1, none⟩) HB1.out.size (.int .i64 ZK)).setCell (p := ⟨w1.heap.size, 2, none⟩) HB1.out.size (.int .i64 ZO)); obtain ⟨-, ⟨c0, f0⟩, ⟨c1, f1⟩, ⟨c2, f2⟩⟩ := hL4; obtain ⟨-, ⟨m0, n0⟩, ⟨m1, n1⟩, ⟨m2, n2⟩⟩ := hM4; have HMS := Lib.hid ((hM4q.put1 ZK).put2 ZO); clear hO)
      | (go_at_call 45; (with_reducible refine (CB.out _ HS4.out).mono ?_); rintro e wz ⟨p, rfl, hX, hb⟩; have HXB := Lib.hid (hX.mono (C := w.heap.size + 1) (by have := HLS.out.1; omega)); have HLZ := Lib.hid (HLS.out.call hb); have HBZ := Lib.hid (thenB HBS.out hb); obtain ⟨-, ⟨c0, f0⟩, ⟨c1, f1⟩, ⟨c2, f2⟩⟩ := HLZ.out; clear hX hb))
    have hq := (((HLZ.out).put0 (0)).put1 (0)).put2 (0)
    exact bodyPost_ret (v := .tuple #[.agg #[.int .i64 (0), .int .i64 (0), .int .i64 (0)], .iface 105 (.pointer (some ⟨p, 0, none⟩))]) (by simp [results, Tryz.results19, go_sem, hq.2.1.1, hq.2.2.1.1, hq.2.2.2.1]) rfl ⟨below_set3 HBZ.out _ _ _, _, by rw [HP.out], by rw [HP.out]; exact .inr (.inr ⟨HX0.out, HX1.out, HXB.out.set3 _ _ _⟩)⟩
  · have hld : decide (K < s.size) = false := decide_eq_false hlt; have hldi : decide (((K : Nat) : Int) < (s.size : Int)) = false := decide_eq_false (by omega)
    have HF := Lib.hid (join_all D SC)
    by_cases hj : joinE D SC = 0
    · have HP : Hid (parP s = ⟨joinR D SC, ZK, ZO, 0, -1⟩) := Lib.hid (by rw [HE.out]; unfold endP; rw [if_neg hlt]; simp [hj, hfull])
      have CJ : Hid (∀ w0, Calls Tryz.prog 46 #[.int .i64 D, .int .i64 SC] w0 fun e w' => e = .returned (.tuple #[.int .i64 (joinR D SC), .nilIface]) ∧ w0 = w') := Lib.hid fun w0 => (HF.out w0).mono fun e w' ⟨h1, h2⟩ => ⟨by rw [h1, hj]; rfl, h2⟩
      obtain ⟨J, hJ⟩ : ∃ J, joinR D SC = J := ⟨_, rfl⟩; rw [hJ] at CJ HP; clear hJ hj
      go_enter Tryz.func19, Tryz.ntmps19
      go_wp2_with (first
        | (go_at_call 41; (with_reducible refine CD.out.mono ?_); rintro e w1 ⟨rfl, hS, hO⟩; have HL1 := Lib.hid (HW2.out.2.1.only hO (by omega)); have HB1 := Lib.hid (hO.new HW2.out.2.2 (by omega)); have HS1 := Lib.hid hS; have HZ1 := Lib.hid hS.1; clear hS hO)
        | (go_at_call 42; (with_reducible refine (CT.out _ (HS1.out.alloc _)).mono ?_); rintro e w2 ⟨rfl, hS, hO⟩; have HL2 := Lib.hid ((HL1.out.call ((Below.refl _ _).alloc (Nat.le_refl _) _)).only hO (by omega)); have HB2 := Lib.hid (hO.new (HB1.out.alloc HB1.out.size _) (by omega)); have HS2 := Lib.hid hS; have HM2 := Lib.hid ((L3.new w1 24).only hO (Nat.ne_of_gt HZ1.out)); clear hS hO)
        | (go_at_call 43; (with_reducible refine (CC.out _ HS2.out).mono ?_); rintro e w3 ⟨rfl, hS, hO⟩; have HL3 := Lib.hid (HL2.out.only hO (by omega)); have HB3 := Lib.hid (HB2.out.trans (hO.1.mono (by omega))); have HS3 := Lib.hid hS; have HM3 := Lib.hid (HM2.out.only hO (Nat.ne_of_gt HZ1.out)); clear hS hO)
        | (go_at_call 44; (with_reducible refine (CZ.out _ HS3.out).mono ?_); rintro e w4 ⟨rfl, hS, hO⟩; have HS4 := Lib.hid (ScanAt.off (ScanAt.off hS ⟨w1.heap.size, 1, none⟩ (Nat.ne_of_gt HZ1.out) (.int .i64 ZK)) ⟨w1.heap.size, 2, none⟩ (Nat.ne_of_gt HZ1.out) (.int .i64 ZO)); obtain ⟨-, k0, k1, -⟩ := hS; have hnb : w1.heap.size ≠ w.heap.size + 1 := (by have := HZ1.out; omega); have hL4 := HL3.out.only hO (by omega); have hM4 := HM3.out.only hO (Nat.ne_of_gt HZ1.out); have hM4q := hM4; have hne : w1.heap.size ≠ w.heap.size := (by have := HL1.out.1; omega); have HLS := Lib.hid ((hL4.far (p := ⟨w1.heap.size, 1, none⟩) hne (.int .i64 ZK)).far (p := ⟨w1.heap.size, 2, none⟩) hne (.int .i64 ZO)); have HBS := Lib.hid (((HB3.out.trans (hO.1.mono (by omega))).setCell (p := ⟨w1.heap.size, 1, none⟩) HB1.out.size (.int .i64 ZK)).setCell (p := ⟨w1.heap.size, 2, none⟩) HB1.out.size (.int .i64 ZO)); obtain ⟨-, ⟨c0, f0⟩, ⟨c1, f1⟩, ⟨c2, f2⟩⟩ := hL4; obtain ⟨-, ⟨m0, n0⟩, ⟨m1, n1⟩, ⟨m2, n2⟩⟩ := hM4; have HMS := Lib.hid ((hM4q.put1 ZK).put2 ZO); clear hO)
        | (go_at_call 46; (with_reducible refine (CJ.out _).mono ?_); rintro e wj ⟨rfl, rfl⟩; have hne : w1.heap.size ≠ w.heap.size := (by have := HL1.out.1; omega); have HLS := Lib.hid (HLS.out.far (p := ⟨w1.heap.size, 0, none⟩) hne (.int .i64 J)); have HBS := Lib.hid (HBS.out.setCell (p := ⟨w1.heap.size, 0, none⟩) HB1.out.size (.int .i64 J)); obtain ⟨-, ⟨c0, f0⟩, ⟨c1, f1⟩, ⟨c2, f2⟩⟩ := HLS.out; obtain ⟨-, ⟨m0, n0⟩, ⟨m1, n1⟩, ⟨m2, n2⟩⟩ := HMS.out))
      have hq := (((HLS.out).put0 (J)).put1 (ZK)).put2 (ZO)
      exact bodyPost_ret (v := .tuple #[.agg #[.int .i64 (J), .int .i64 (ZK), .int .i64 (ZO)], .nilIface]) (by simp [results, Tryz.results19, go_sem, hq.2.1.1, hq.2.2.1.1, hq.2.2.2.1]) rfl ⟨below_set3 HBS.out _ _ _, _, by rw [HP.out], by rw [HP.out]; exact .inl ⟨rfl, rfl, rfl⟩⟩
    · have HP : Hid (parP s = ⟨0, 0, 0, joinE D SC, -1⟩) := Lib.hid (by rw [HE.out]; unfold endP; rw [if_neg hlt]; simp [hj, hfull])
      have CJ : Hid (∀ w0, Calls Tryz.prog 46 #[.int .i64 D, .int .i64 SC] w0 fun e w' => e = .returned (.tuple #[.int .i64 (joinR D SC), .iface 25 (.int .i64 (joinE D SC))]) ∧ w0 = w') := Lib.hid fun w0 => (HF.out w0).mono fun e w' ⟨h1, h2⟩ => ⟨by rw [h1, errV_hit hj], h2⟩
      have HX0 := Lib.hid hj
      obtain ⟨J, hJ⟩ : ∃ J, joinR D SC = J := ⟨_, rfl⟩; rw [hJ] at CJ; clear hJ hj
      go_enter Tryz.func19, Tryz.ntmps19
      go_wp2_with (first
        | (go_at_call 41; (with_reducible refine CD.out.mono ?_); rintro e w1 ⟨rfl, hS, hO⟩; have HL1 := Lib.hid (HW2.out.2.1.only hO (by omega)); have HB1 := Lib.hid (hO.new HW2.out.2.2 (by omega)); have HS1 := Lib.hid hS; have HZ1 := Lib.hid hS.1; clear hS hO)
        | (go_at_call 42; (with_reducible refine (CT.out _ (HS1.out.alloc _)).mono ?_); rintro e w2 ⟨rfl, hS, hO⟩; have HL2 := Lib.hid ((HL1.out.call ((Below.refl _ _).alloc (Nat.le_refl _) _)).only hO (by omega)); have HB2 := Lib.hid (hO.new (HB1.out.alloc HB1.out.size _) (by omega)); have HS2 := Lib.hid hS; have HM2 := Lib.hid ((L3.new w1 24).only hO (Nat.ne_of_gt HZ1.out)); clear hS hO)
        | (go_at_call 43; (with_reducible refine (CC.out _ HS2.out).mono ?_); rintro e w3 ⟨rfl, hS, hO⟩; have HL3 := Lib.hid (HL2.out.only hO (by omega)); have HB3 := Lib.hid (HB2.out.trans (hO.1.mono (by omega))); have HS3 := Lib.hid hS; have HM3 := Lib.hid (HM2.out.only hO (Nat.ne_of_gt HZ1.out)); clear hS hO)
        | (go_at_call 44; (with_reducible refine (CZ.out _ HS3.out).mono ?_); rintro e w4 ⟨rfl, hS, hO⟩; have HS4 := Lib.hid (ScanAt.off (ScanAt.off hS ⟨w1.heap.size, 1, none⟩ (Nat.ne_of_gt HZ1.out) (.int .i64 ZK)) ⟨w1.heap.size, 2, none⟩ (Nat.ne_of_gt HZ1.out) (.int .i64 ZO)); obtain ⟨-, k0, k1, -⟩ := hS; have hnb : w1.heap.size ≠ w.heap.size + 1 := (by have := HZ1.out; omega); have hL4 := HL3.out.only hO (by omega); have hM4 := HM3.out.only hO (Nat.ne_of_gt HZ1.out); have hM4q := hM4; have hne : w1.heap.size ≠ w.heap.size := (by have := HL1.out.1; omega); have HLS := Lib.hid ((hL4.far (p := ⟨w1.heap.size, 1, none⟩) hne (.int .i64 ZK)).far (p := ⟨w1.heap.size, 2, none⟩) hne (.int .i64 ZO)); have HBS := Lib.hid (((HB3.out.trans (hO.1.mono (by omega))).setCell (p := ⟨w1.heap.size, 1, none⟩) HB1.out.size (.int .i64 ZK)).setCell (p := ⟨w1.heap.size, 2, none⟩) HB1.out.size (.int .i64 ZO)); obtain ⟨-, ⟨c0, f0⟩, ⟨c1, f1⟩, ⟨c2, f2⟩⟩ := hL4; obtain ⟨-, ⟨m0, n0⟩, ⟨m1, n1⟩, ⟨m2, n2⟩⟩ := hM4; have HMS := Lib.hid ((hM4q.put1 ZK).put2 ZO); clear hO)
        | (go_at_call 46; (with_reducible refine (CJ.out _).mono ?_); rintro e wj ⟨rfl, rfl⟩; have hne : w1.heap.size ≠ w.heap.size := (by have := HL1.out.1; omega); have HLS := Lib.hid (HLS.out.far (p := ⟨w1.heap.size, 0, none⟩) hne (.int .i64 J)); have HBS := Lib.hid (HBS.out.setCell (p := ⟨w1.heap.size, 0, none⟩) HB1.out.size (.int .i64 J)); obtain ⟨-, ⟨c0, f0⟩, ⟨c1, f1⟩, ⟨c2, f2⟩⟩ := HLS.out; obtain ⟨-, ⟨m0, n0⟩, ⟨m1, n1⟩, ⟨m2, n2⟩⟩ := HMS.out))
      have hq := (((HLS.out).put0 (0)).put1 (0)).put2 (0)
      exact bodyPost_ret (v := .tuple #[.agg #[.int .i64 (0), .int .i64 (0), .int .i64 (0)], .iface 25 (.int .i64 (joinE D SC))]) (by simp [results, Tryz.results19, go_sem, hq.2.1.1, hq.2.2.1.1, hq.2.2.2.1]) rfl ⟨below_set3 HBS.out _ _ _, _, by rw [HP.out], by rw [HP.out]; exact .inr (.inl ⟨HX0.out, rfl, rfl⟩)⟩
end Go.Proofs.YtkfpnlenmdlmjaaGreatDoor
