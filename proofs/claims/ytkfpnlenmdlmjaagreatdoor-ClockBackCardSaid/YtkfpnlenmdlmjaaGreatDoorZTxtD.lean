/- Stamps as texts: the program's StampText, the document's. -/
import Derived.Test.YtkfpnlenmdlmjaaGreatDoorZTxtB
import Derived.Test.YtkfpnlenmdlmjaaGreatDoorZTxtC
namespace Go.Proofs.YtkfpnlenmdlmjaaGreatDoor
open Go.RowKit
theorem TxR.len {t : Int} {S : List UInt8} {x : Int} (h : TxR t S x) : S.length ≤ 300 := by
  cases h with
  | off _ => simp
  | @ok a y m d h mi s h1 hr =>
    obtain ⟨b1, b2, b3, b4, b5, b6, b7, b8, b9, b10, b11, b12⟩ := tell_bd h1 hr
    have l0 := yearL_len (y := y) (by omega) (by omega)
    have l1 := padL_len m 2 (by omega) (by omega) (by omega)
    have l2 := padL_len d 2 (by omega) (by omega) (by omega)
    have l3 := padL_len h 2 (by omega) (by omega) (by omega)
    have l4 := padL_len mi 2 (by omega) (by omega) (by omega)
    have l5 := padL_len s 2 (by omega) (by omega) (by omega)
    unfold textL6
    simp only [List.length_append, List.length_cons, List.length_nil]
    omega
theorem TxR.zero {t : Int} {S : List UInt8} {x : Int} (h : TxR t S x) (h1 : -345600000000 ≤ t) (h2 : t ≤ 345600086399) : x = 0 := by
  cases h with
  | off _ => omega
  | ok _ _ => rfl
/-- What StampText answers. -/
def stF (S : List UInt8) (e z o : Int) : List UInt8 × Int := if e ≠ 0 then ([], e) else if z = 2 then (if offE o ≠ 0 then ([], offE o) else (S ++ offL o, 0)) else if z < 0 ∨ 2 < z ∨ o ≠ 0 then ([], 1) else (S ++ (if z = 1 then [90] else []), 0)
def StR (t z o : Int) (R : List UInt8) (x : Int) : Prop := ∃ S e, TxR t S e ∧ stF S e z o = (R, x)
theorem StR.one {t z o : Int} {R R' : List UInt8} {x x' : Int} (h : StR t z o R x) (h' : StR t z o R' x') : R = R' ∧ x = x' := by
  obtain ⟨S, e, h1, h2⟩ := h
  obtain ⟨S', e', h1', h2'⟩ := h'
  obtain ⟨rfl, rfl⟩ := h1.one h1'
  rw [h2] at h2'
  exact ⟨congrArg Prod.fst h2', congrArg Prod.snd h2'⟩
def StPost (Q : List UInt8 → Int → Prop) (E : Int → Value) (w : World) (e : Ending) (w' : World) : Prop := ∃ R x, e = .returned (.tuple #[.string ⟨R.toArray⟩, E x]) ∧ Q R x ∧ Below w.heap.size w w'
set_option maxRecDepth 100000 in
set_option maxHeartbeats 8000000 in
theorem stamp_any (t z o : Int) (w : World) (hr : RomanT w) (hp : Pow w) :
    Calls Tryz.prog 34 #[.agg #[.int .i64 t, .int .i64 z, .int .i64 o]] w (StPost (StR t z o) errV w) := by
  have H4 : Hid (errV 4 = .iface 25 (.int .i64 4)) := Lib.hid (errV_hit (by decide))
  have H1 : Hid (errV 1 = .iface 25 (.int .i64 1)) := Lib.hid (errV_hit (by decide))
  have H0 : Hid (errV 0 = .nilIface) := Lib.hid rfl
  have HB0 := Lib.hid ((Below.refl w.heap.size w).alloc (Nat.le_refl _) (.cells #[.int .i64 t, .int .i64 z, .int .i64 o] 24))
  rcases loc_ways t with ht | ⟨g1, g2⟩
  · have HK : Hid (∀ w', Below w.heap.size w w' → StPost (StR t z o) errV w (.returned (.tuple #[.string ⟨#[]⟩, .iface 25 (.int .i64 4)])) w') := Lib.hid fun w' hb => ⟨[], 4, by rw [H4.out], ⟨[], 4, .off ht, by simp [stF]⟩, hb⟩
    have CT : Hid (∀ w0, Below w.heap.size w w0 → Calls Tryz.prog 30 #[.int .i64 t] w0 fun e w' => e = .returned (.tuple #[.string ⟨#[]⟩, .iface 25 (.int .i64 4)]) ∧ Below w0.heap.size w0 w') := Lib.hid fun w0 hb => ctext_off t w0 (hr.call hb) ht
    clear ht
    go_enter Tryz.func34, Tryz.ntmps34
    go_wp2_with (go_at_call 30; (with_reducible refine (CT.out _ HB0.out).mono ?_); rintro e w1 ⟨rfl, hb1⟩; have HB1 := Lib.hid (thenB HB0.out hb1); clear hb1)
    go_ret2
    exact HK.out _ HB1.out
  · have CT : Hid (∀ w0, Below w.heap.size w w0 → Calls Tryz.prog 30 #[.int .i64 t] w0 fun e w' => ∃ S : ByteArray, e = .returned (.tuple #[.string S, .nilIface]) ∧ TxR t S.data.toList 0 ∧ S.size ≤ 300 ∧ Below w0.heap.size w0 w') := Lib.hid fun w0 hb => (ctext_ok t w0 (hr.call hb) (hp.call hb) ⟨g1, g2⟩).mono fun e w' ⟨S, x, he, hT, hb'⟩ => ⟨⟨S.toArray⟩, he, by obtain rfl := hT.zero g1 g2; simpa using hT, by rw [Lib.size_eq]; simpa using hT.len, hb'⟩
    obtain ⟨wB, hwB⟩ : ∃ x, w.alloc (.cells #[.int .i64 t, .int .i64 z, .int .i64 o] 24) = x := ⟨_, rfl⟩
    have hlt : w.heap.size < wB.heap.size := by rw [← hwB]; simp
    have HQ1 : Hid (wB.cell? ⟨w.heap.size, 1, none⟩ = some (.int .i64 z)) := Lib.hid (by rw [← hwB]; simp)
    have HQ2 : Hid (wB.cell? ⟨w.heap.size, 2, none⟩ = some (.int .i64 o)) := Lib.hid (by rw [← hwB]; simp)
    have HwB := Lib.hid hwB
    have HP := Lib.hid hp
    have HK : Hid (∀ S : ByteArray, TxR t S.data.toList 0 → ∀ (R : ByteArray) (x : Int) (E : Value), stF S.data.toList 0 z o = (R.data.toList, x) → errV x = E → ∀ w', Below w.heap.size w w' → StPost (StR t z o) errV w (.returned (.tuple #[.string R, E])) w') := Lib.hid fun S hS R x E h1 h2 w' hb => ⟨R.data.toList, x, by rw [str_eqT (s := R) rfl, h2], ⟨_, _, hS, h1⟩, hb⟩
    clear hwB g1 g2 hp
    by_cases z2 : z = 2
    · subst z2
      by_cases hoe : offE o = 0
      · have CO : Hid (∀ w0, Below w.heap.size w w0 → Calls Tryz.prog 33 #[.int .i64 o] w0 fun e w' => e = .returned (.tuple #[.string ⟨(offL o).toArray⟩, .nilIface]) ∧ Below w0.heap.size w0 w') := Lib.hid fun w0 hb => by
          have k := offText_any o w0 (HP.out.call hb)
          rw [hoe] at k
          exact k
        have lo : (offL o).length ≤ 100 := by
          unfold offL
          rw [if_pos hoe]
          have : ¬ (o ≤ -86400 ∨ 86400 ≤ o ∨ o % 60 ≠ 0) := fun h => by rw [offE_bad h] at hoe; cases hoe
          exact offS_len (by omega) (by omega)
        obtain ⟨SO, hSO⟩ : ∃ S : ByteArray, (⟨(offL o).toArray⟩ : ByteArray) = S := ⟨_, rfl⟩
        rw [hSO] at CO
        have HSO : Hid (SO.data.toList = offL o) := Lib.hid (by rw [← hSO])
        have zo : SO.size ≤ 100 := by rw [← hSO, Lib.size_eq]; exact lo
        have HOE := Lib.hid hoe
        clear hSO lo hoe
        go_enter Tryz.func34, Tryz.ntmps34
        go_wp2_with (first
          | (go_at_call 30; (with_reducible refine (CT.out _ HB0.out).mono ?_); rintro e w1 ⟨S, rfl, hT, hS, hb1⟩; have HT := Lib.hid hT; have HB1 := Lib.hid (thenB HB0.out hb1); rw [HwB.out] at hb1; have c1 := (hb1.cell (p := ⟨w.heap.size, 1, none⟩) hlt).trans HQ1.out; have c2 := (hb1.cell (p := ⟨w.heap.size, 2, none⟩) hlt).trans HQ2.out; clear hb1 hT)
          | (go_at_call 33; (with_reducible refine (CO.out _ HB1.out).mono ?_); rintro e w2 ⟨rfl, hb2⟩; have HB2 := Lib.hid (thenB HB1.out hb2); clear hb2)
          | fail)
        go_ret2
        exact HK.out S HT.out _ 0 _ (by unfold stF; rw [if_neg (by decide), if_pos rfl, if_neg (by rw [HOE.out]; decide), app_eqT, HSO.out]) H0.out _ HB2.out
      · have hoe4 : offE o = 4 := by revert hoe; unfold offE; split <;> simp
        have CO : Hid (∀ w0, Below w.heap.size w w0 → Calls Tryz.prog 33 #[.int .i64 o] w0 fun e w' => e = .returned (.tuple #[.string ⟨(offL o).toArray⟩, .iface 25 (.int .i64 4)]) ∧ Below w0.heap.size w0 w') := Lib.hid fun w0 hb => by
          have k := offText_any o w0 (HP.out.call hb)
          rw [hoe4, H4.out] at k
          exact k
        have HOE := Lib.hid hoe4
        clear hoe hoe4
        go_enter Tryz.func34, Tryz.ntmps34
        go_wp2_with (first
          | (go_at_call 30; (with_reducible refine (CT.out _ HB0.out).mono ?_); rintro e w1 ⟨S, rfl, hT, hS, hb1⟩; have HT := Lib.hid hT; have HB1 := Lib.hid (thenB HB0.out hb1); rw [HwB.out] at hb1; have c1 := (hb1.cell (p := ⟨w.heap.size, 1, none⟩) hlt).trans HQ1.out; have c2 := (hb1.cell (p := ⟨w.heap.size, 2, none⟩) hlt).trans HQ2.out; clear hb1 hT)
          | (go_at_call 33; (with_reducible refine (CO.out _ HB1.out).mono ?_); rintro e w2 ⟨rfl, hb2⟩; have HB2 := Lib.hid (thenB HB1.out hb2); clear hb2)
          | fail)
        go_ret2
        exact HK.out S HT.out _ 4 _ (by unfold stF; rw [if_neg (by decide), if_pos rfl, if_pos (by rw [HOE.out]; decide), HOE.out]) H4.out _ HB2.out
    · have b2 : (z == 2) = false := by simpa using z2
      by_cases z10 : z = 0
      · subst z10
        by_cases ho : o = 0
        · subst ho
          go_enter Tryz.func34, Tryz.ntmps34
          go_wp2_with (first
            | (go_at_call 30; (with_reducible refine (CT.out _ HB0.out).mono ?_); rintro e w1 ⟨S, rfl, hT, hS, hb1⟩; have HT := Lib.hid hT; have HB1 := Lib.hid (thenB HB0.out hb1); rw [HwB.out] at hb1; have c1 := (hb1.cell (p := ⟨w.heap.size, 1, none⟩) hlt).trans HQ1.out; have c2 := (hb1.cell (p := ⟨w.heap.size, 2, none⟩) hlt).trans HQ2.out; clear hb1 hT)
            | fail)
          go_ret2
          exact HK.out S HT.out _ 0 _ (by unfold stF; simp) H0.out _ HB1.out
        · have bo : (o != 0) = true := by simpa using ho
          have HO := Lib.hid ho
          clear ho
          go_enter Tryz.func34, Tryz.ntmps34
          go_wp2_with (first
            | (go_at_call 30; (with_reducible refine (CT.out _ HB0.out).mono ?_); rintro e w1 ⟨S, rfl, hT, hS, hb1⟩; have HT := Lib.hid hT; have HB1 := Lib.hid (thenB HB0.out hb1); rw [HwB.out] at hb1; have c1 := (hb1.cell (p := ⟨w.heap.size, 1, none⟩) hlt).trans HQ1.out; have c2 := (hb1.cell (p := ⟨w.heap.size, 2, none⟩) hlt).trans HQ2.out; clear hb1 hT)
            | fail)
          go_ret2
          exact HK.out S HT.out _ 1 _ (by unfold stF; rw [if_neg (by decide), if_neg (by decide), if_pos (.inr (.inr HO.out))]) H1.out _ HB1.out
      · have b10 : (z == 0) = false := by simpa using z10
        by_cases z11 : z = 1
        · subst z11
          by_cases ho : o = 0
          · subst ho
            go_enter Tryz.func34, Tryz.ntmps34
            go_wp2_with (first
              | (go_at_call 30; (with_reducible refine (CT.out _ HB0.out).mono ?_); rintro e w1 ⟨S, rfl, hT, hS, hb1⟩; have HT := Lib.hid hT; have HB1 := Lib.hid (thenB HB0.out hb1); rw [HwB.out] at hb1; have c1 := (hb1.cell (p := ⟨w.heap.size, 1, none⟩) hlt).trans HQ1.out; have c2 := (hb1.cell (p := ⟨w.heap.size, 2, none⟩) hlt).trans HQ2.out; clear hb1 hT)
              | fail)
            go_ret2
            exact HK.out S HT.out _ 0 _ (by unfold stF; simp) H0.out _ HB1.out
          · have bo : (o != 0) = true := by simpa using ho
            have HO := Lib.hid ho
            clear ho
            go_enter Tryz.func34, Tryz.ntmps34
            go_wp2_with (first
              | (go_at_call 30; (with_reducible refine (CT.out _ HB0.out).mono ?_); rintro e w1 ⟨S, rfl, hT, hS, hb1⟩; have HT := Lib.hid hT; have HB1 := Lib.hid (thenB HB0.out hb1); rw [HwB.out] at hb1; have c1 := (hb1.cell (p := ⟨w.heap.size, 1, none⟩) hlt).trans HQ1.out; have c2 := (hb1.cell (p := ⟨w.heap.size, 2, none⟩) hlt).trans HQ2.out; clear hb1 hT)
              | fail)
            go_ret2
            exact HK.out S HT.out _ 1 _ (by unfold stF; rw [if_neg (by decide), if_neg (by decide), if_pos (.inr (.inr HO.out))]) H1.out _ HB1.out
        · have b11 : (z == 1) = false := by simpa using z11
          have HZ : Hid (z < 0 ∨ 2 < z) := Lib.hid (by omega)
          have HZ2 := Lib.hid z2
          clear z2 z10 z11
          go_enter Tryz.func34, Tryz.ntmps34
          go_wp2_with (first
            | (go_at_call 30; (with_reducible refine (CT.out _ HB0.out).mono ?_); rintro e w1 ⟨S, rfl, hT, hS, hb1⟩; have HT := Lib.hid hT; have HB1 := Lib.hid (thenB HB0.out hb1); rw [HwB.out] at hb1; have c1 := (hb1.cell (p := ⟨w.heap.size, 1, none⟩) hlt).trans HQ1.out; have c2 := (hb1.cell (p := ⟨w.heap.size, 2, none⟩) hlt).trans HQ2.out; clear hb1 hT)
            | fail)
          go_ret2
          exact HK.out S HT.out _ 1 _ (by unfold stF; rw [if_neg (by decide), if_neg HZ2.out, if_pos (by rcases HZ.out with h | h; exact .inl h; exact .inr (.inl h))]) H1.out _ HB1.out
end Go.Proofs.YtkfpnlenmdlmjaaGreatDoor
