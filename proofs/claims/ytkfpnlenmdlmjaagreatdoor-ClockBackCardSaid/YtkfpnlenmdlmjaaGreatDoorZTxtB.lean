/- Times as texts: clock.year, clock.Text, the document's Text. -/
import Derived.Test.YtkfpnlenmdlmjaaGreatDoorZTxtA
import Derived.Test.YtkfpnlenmdlmjaaGreatDoorZG12
import Derived.BigQuiet
namespace Go.Proofs.YtkfpnlenmdlmjaaGreatDoor
open Go.RowKit
def yearL (y : Int) : List UInt8 := if y < 0 then 45 :: padL (-y) 5 else if 9999 < y then 43 :: padL y 5 else padL y 4
theorem yearL_len {y : Int} (h1 : -100000 ≤ y) (h2 : y ≤ 100000) : (yearL y).length ≤ 32 := by
  have a := padL_len (-y) 5 (by omega) (by omega) (by omega)
  have b := padL_len y 5 (by omega) (by omega) (by omega)
  have c := padL_len y 4 (by omega) (by omega) (by omega)
  unfold yearL
  split
  · simp; omega
  · split
    · simp; omega
    · omega
def textL6 (y m d h mi s : Int) : List UInt8 := yearL y ++ [45] ++ padL m 2 ++ [45] ++ padL d 2 ++ [84] ++ padL h 2 ++ [58] ++ padL mi 2 ++ [58] ++ padL s 2
set_option maxHeartbeats 2000000 in
theorem yearT_any (y : Int) (w : World) (hp : Pow w) (h1 : -100000 ≤ y) (h2 : y ≤ 100000) :
    Calls Tryz.prog 55 #[.int .i64 y] w fun e w' => e = .returned (.string ⟨(yearL y).toArray⟩) ∧ Below w.heap.size w w' := by
  by_cases hy : y < 0
  · have C : Hid (Calls Tryz.prog 56 #[.int .i64 (-y), .int .i64 5] w fun e w' => e = .returned (.string ⟨(padL (-y) 5).toArray⟩) ∧ Below w.heap.size w w') := Lib.hid (pad_any (-y) 5 w hp (by omega) (by omega) (by omega))
    have hl := padL_len (-y) 5 (by omega) (by omega) (by omega)
    obtain ⟨S, hS⟩ : ∃ S : ByteArray, (⟨(padL (-y) 5).toArray⟩ : ByteArray) = S := ⟨_, rfl⟩
    have HE : Hid ((⟨(yearL y).toArray⟩ : ByteArray) = ⟨#[45]⟩ ++ S) := Lib.hid (str_eqT (by rw [app_eqT, ← hS]; unfold yearL; rw [if_pos hy]; rfl))
    have hs : S.size ≤ 31 := by rw [← hS, Lib.size_eq]; exact hl
    rw [hS] at C
    clear hS hl
    go_enter Tryz.func55, Tryz.ntmps55
    go_wp2_with (go_at_call 56; (with_reducible refine C.out.mono ?_); rintro e w1 ⟨rfl, hb1⟩; have HB1 := Lib.hid hb1; clear hb1)
    go_ret
    exact ⟨by rw [HE.out]; rfl, HB1.out⟩
  · by_cases hy2 : 9999 < y
    · have C : Hid (Calls Tryz.prog 56 #[.int .i64 y, .int .i64 5] w fun e w' => e = .returned (.string ⟨(padL y 5).toArray⟩) ∧ Below w.heap.size w w') := Lib.hid (pad_any y 5 w hp (by omega) (by omega) (by omega))
      have hl := padL_len y 5 (by omega) (by omega) (by omega)
      obtain ⟨S, hS⟩ : ∃ S : ByteArray, (⟨(padL y 5).toArray⟩ : ByteArray) = S := ⟨_, rfl⟩
      have HE : Hid ((⟨(yearL y).toArray⟩ : ByteArray) = ⟨#[43]⟩ ++ S) := Lib.hid (str_eqT (by rw [app_eqT, ← hS]; unfold yearL; rw [if_neg hy, if_pos hy2]; rfl))
      have hs : S.size ≤ 31 := by rw [← hS, Lib.size_eq]; exact hl
      rw [hS] at C
      clear hS hl
      go_enter Tryz.func55, Tryz.ntmps55
      go_wp2_with (go_at_call 56; (with_reducible refine C.out.mono ?_); rintro e w1 ⟨rfl, hb1⟩; have HB1 := Lib.hid hb1; clear hb1)
      go_ret
      exact ⟨by rw [HE.out]; rfl, HB1.out⟩
    · have C : Hid (Calls Tryz.prog 56 #[.int .i64 y, .int .i64 4] w fun e w' => e = .returned (.string ⟨(padL y 4).toArray⟩) ∧ Below w.heap.size w w') := Lib.hid (pad_any y 4 w hp (by omega) (by omega) (by omega))
      obtain ⟨S, hS⟩ : ∃ S : ByteArray, (⟨(padL y 4).toArray⟩ : ByteArray) = S := ⟨_, rfl⟩
      have HE : Hid ((⟨(yearL y).toArray⟩ : ByteArray) = S) := Lib.hid (str_eqT (by rw [← hS]; unfold yearL; rw [if_neg hy, if_neg hy2]))
      rw [hS] at C
      clear hS
      go_enter Tryz.func55, Tryz.ntmps55
      go_wp2_with (go_at_call 56; (with_reducible refine C.out.mono ?_); rintro e w1 ⟨rfl, hb1⟩; have HB1 := Lib.hid hb1; clear hb1)
      go_ret
      exact ⟨by rw [HE.out]; rfl, HB1.out⟩
/-- A time's text. -/
inductive TxR (t : Int) : List UInt8 → Int → Prop
  | off (h : t < -345600000000 ∨ 345600086399 < t) : TxR t [] 4
  | ok {a y m d h mi s : Int} (h1 : -345600000000 ≤ t ∧ t ≤ 345600086399) (hr : TellR t a y m d h mi s) : TxR t (textL6 y m d h mi s) 0
theorem TxR.one {t : Int} {S S' : List UInt8} {x x' : Int} (h : TxR t S x) (h' : TxR t S' x') : S = S' ∧ x = x' := by
  cases h with
  | off h => cases h' with
    | off _ => exact ⟨rfl, rfl⟩
    | ok h1 _ => omega
  | ok h1 hr => cases h' with
    | off h => omega
    | ok _ hr' =>
      obtain ⟨_, rfl, rfl, rfl, rfl, rfl, rfl⟩ := hr.one hr'
      exact ⟨rfl, rfl⟩
theorem tell_bd {t a y m d h mi s : Int} (h1 : -345600000000 ≤ t ∧ t ≤ 345600086399) (hr : TellR t a y m d h mi s) : -20000 ≤ y ∧ y ≤ 20000 ∧ 1 ≤ m ∧ m ≤ 12 ∧ 1 ≤ d ∧ d ≤ 31 ∧ 0 ≤ h ∧ h ≤ 23 ∧ 0 ≤ mi ∧ mi ≤ 59 ∧ 0 ≤ s ∧ s ≤ 59 := by
  rcases hr with ⟨e, _⟩ | ⟨_, _, ho, rfl, rfl, rfl⟩
  · omega
  · rcases ho with ⟨e, _⟩ | ⟨_, rfl, _, _, hv, _⟩
    · exact absurd (ofE_ok (by decide) (by decide) (by omega) (by omega)) e
    · obtain ⟨v1, v2, v3, v4, v5, v6⟩ := hv
      rw [Dm.greg12] at v4
      have := (Dm.length_bd 1 y m).2
      refine ⟨v1, v2, v3, v4, v5, by omega, ?_, ?_, ?_, ?_, ?_, ?_⟩ <;> omega
def TextPost (t : Int) (E : Int → Value) (w : World) (e : Ending) (w' : World) : Prop := ∃ S x, e = .returned (.tuple #[.string ⟨S.toArray⟩, E x]) ∧ TxR t S x ∧ Below w.heap.size w w'
set_option maxHeartbeats 4000000 in
theorem ctext_off (t : Int) (w : World) (hr : RomanT w) (ht : t < -345600000000 ∨ 345600086399 < t) :
    Calls Tryz.prog 30 #[.int .i64 t] w fun e w' => e = .returned (.tuple #[.string ⟨#[]⟩, .iface 25 (.int .i64 4)]) ∧ Below w.heap.size w w' := by
  have CT : Hid (Calls Tryz.prog 54 #[.int .i64 t] w fun e w' => ∃ a y m d x k s, e = .returned (.tuple #[.agg #[.int .i64 a, .int .i64 y, .int .i64 m, .int .i64 d], .agg #[.int .i64 x, .int .i64 k, .int .i64 s], .iface 25 (.int .i64 4)]) ∧ Below w.heap.size w w') := Lib.hid ((ctell_all t w hr).mono fun e w' ⟨a, y, m, d, x, k, s, he, _, hb'⟩ => ⟨a, y, m, d, x, k, s, by rw [he, (loc_out ht).1]; rfl, hb'⟩)
  go_enter Tryz.func30, Tryz.ntmps30
  go_wp2_with (go_at_call 54; (with_reducible refine CT.out.mono ?_); rintro e w2 ⟨a, y, m, d, x, k, s, rfl, hb2⟩; have HB2 := Lib.hid hb2; clear hb2)
  go_ret2
  exact ⟨rfl, (HB2.out.alloc HB2.out.size _).alloc (by have := HB2.out.size; simp; omega) _⟩
set_option maxRecDepth 100000 in
set_option maxHeartbeats 8000000 in
theorem ctext_ok (t : Int) (w : World) (hr : RomanT w) (hp : Pow w) (h1 : -345600000000 ≤ t ∧ t ≤ 345600086399) :
    Calls Tryz.prog 30 #[.int .i64 t] w (TextPost t (fun _ => .nilIface) w) := by
  have CT : Hid (Calls Tryz.prog 54 #[.int .i64 t] w fun e w' => ∃ a y m d x k s, e = .returned (.tuple #[.agg #[.int .i64 a, .int .i64 y, .int .i64 m, .int .i64 d], .agg #[.int .i64 x, .int .i64 k, .int .i64 s], .nilIface]) ∧ TellR t a y m d x k s ∧ Below w.heap.size w w') := Lib.hid ((ctell_all t w hr).mono fun e w' ⟨a, y, m, d, x, k, s, he, hR, hb'⟩ => ⟨a, y, m, d, x, k, s, by rw [he, (loc_in h1.1 h1.2).1]; rfl, hR, hb'⟩)
  have HP := Lib.hid hp
  have H1 := Lib.hid h1
  have HK : Hid (∀ S, TxR t S 0 → ∀ w', Below w.heap.size w w' → TextPost t (fun _ => .nilIface) w (.returned (.tuple #[.string ⟨S.toArray⟩, .nilIface])) w') := Lib.hid fun S hS w' hb => ⟨S, 0, rfl, hS, hb⟩
  clear h1 hp hr
  go_enter Tryz.func30, Tryz.ntmps30
  go_upto_region 4 with (go_at_call 54; (with_reducible refine CT.out.mono ?_); rintro e w2 ⟨a, y, m, d, x, k, s, rfl, hR, hb2⟩; have HR := Lib.hid hR; have HB2 := Lib.hid hb2; clear hR hb2)
  obtain ⟨wA, hwA⟩ : ∃ z, (w2.alloc (.cells #[.int .i64 a, .int .i64 y, .int .i64 m, .int .i64 d] 72)).alloc (.cells #[.int .i64 x, .int .i64 k, .int .i64 s] 74) = z := ⟨_, rfl⟩
  have HA : Hid (Below w.heap.size w wA) := Lib.hid (by rw [← hwA]; exact (HB2.out.alloc HB2.out.size _).alloc (by have := HB2.out.size; simp; omega) _)
  have d1 : wA.cell? ⟨w2.heap.size, 1, none⟩ = some (.int .i64 y) := by rw [← hwA, World.cell?_alloc_lt _ _ _ (by simp), World.cell?_alloc_at _ _ _ _ rfl]; simp
  have d2 : wA.cell? ⟨w2.heap.size, 2, none⟩ = some (.int .i64 m) := by rw [← hwA, World.cell?_alloc_lt _ _ _ (by simp), World.cell?_alloc_at _ _ _ _ rfl]; simp
  have d3 : wA.cell? ⟨w2.heap.size, 3, none⟩ = some (.int .i64 d) := by rw [← hwA, World.cell?_alloc_lt _ _ _ (by simp), World.cell?_alloc_at _ _ _ _ rfl]; simp
  have e0 : wA.cell? ⟨w2.heap.size + 1, 0, none⟩ = some (.int .i64 x) := by rw [← hwA, World.cell?_alloc_at _ _ _ _ (by simp)]; simp
  have e1 : wA.cell? ⟨w2.heap.size + 1, 1, none⟩ = some (.int .i64 k) := by rw [← hwA, World.cell?_alloc_at _ _ _ _ (by simp)]; simp
  have e2 : wA.cell? ⟨w2.heap.size + 1, 2, none⟩ = some (.int .i64 s) := by rw [← hwA, World.cell?_alloc_at _ _ _ _ (by simp)]; simp
  rw [hwA]
  have HPA := Lib.hid (HP.out.call HA.out)
  obtain ⟨b1, b2, b3, b4, b5, b6, b7, b8, b9, b10, b11, b12⟩ := tell_bd H1.out HR.out
  have HTx : Hid (TxR t (textL6 y m d x k s) 0) := Lib.hid (.ok H1.out HR.out)
  clear hwA
  obtain ⟨B1, hB1⟩ : ∃ z, w2.heap.size = z := ⟨_, rfl⟩
  obtain ⟨B2, hB2⟩ : ∃ z, w2.heap.size + 1 = z := ⟨_, rfl⟩
  rw [hB2] at e0 e1 e2 ⊢
  rw [hB1] at d1 d2 d3 ⊢
  clear hB1 hB2
  obtain ⟨SM, hSM⟩ : ∃ z : ByteArray, (⟨(padL m 2).toArray⟩ : ByteArray) = z := ⟨_, rfl⟩
  have zM : SM.size ≤ 31 := by rw [← hSM, Lib.size_eq]; exact padL_len m 2 (by omega) (by omega) (by omega)
  have CM : Hid (∀ w0, Below wA.heap.size wA w0 → Calls Tryz.prog 56 #[.int .i64 m, .int .i64 2] w0 fun e w' => e = .returned (.string SM) ∧ Below w0.heap.size w0 w') := Lib.hid fun w0 hb => hSM ▸ pad_any m 2 w0 (HPA.out.call hb) (by omega) (by omega) (by omega)
  obtain ⟨SD, hSD⟩ : ∃ z : ByteArray, (⟨(padL d 2).toArray⟩ : ByteArray) = z := ⟨_, rfl⟩
  have zD : SD.size ≤ 31 := by rw [← hSD, Lib.size_eq]; exact padL_len d 2 (by omega) (by omega) (by omega)
  have CD : Hid (∀ w0, Below wA.heap.size wA w0 → Calls Tryz.prog 56 #[.int .i64 d, .int .i64 2] w0 fun e w' => e = .returned (.string SD) ∧ Below w0.heap.size w0 w') := Lib.hid fun w0 hb => hSD ▸ pad_any d 2 w0 (HPA.out.call hb) (by omega) (by omega) (by omega)
  obtain ⟨SX, hSX⟩ : ∃ z : ByteArray, (⟨(padL x 2).toArray⟩ : ByteArray) = z := ⟨_, rfl⟩
  have zX : SX.size ≤ 31 := by rw [← hSX, Lib.size_eq]; exact padL_len x 2 (by omega) (by omega) (by omega)
  have CX : Hid (∀ w0, Below wA.heap.size wA w0 → Calls Tryz.prog 56 #[.int .i64 x, .int .i64 2] w0 fun e w' => e = .returned (.string SX) ∧ Below w0.heap.size w0 w') := Lib.hid fun w0 hb => hSX ▸ pad_any x 2 w0 (HPA.out.call hb) (by omega) (by omega) (by omega)
  obtain ⟨SK, hSK⟩ : ∃ z : ByteArray, (⟨(padL k 2).toArray⟩ : ByteArray) = z := ⟨_, rfl⟩
  have zK : SK.size ≤ 31 := by rw [← hSK, Lib.size_eq]; exact padL_len k 2 (by omega) (by omega) (by omega)
  have CK : Hid (∀ w0, Below wA.heap.size wA w0 → Calls Tryz.prog 56 #[.int .i64 k, .int .i64 2] w0 fun e w' => e = .returned (.string SK) ∧ Below w0.heap.size w0 w') := Lib.hid fun w0 hb => hSK ▸ pad_any k 2 w0 (HPA.out.call hb) (by omega) (by omega) (by omega)
  obtain ⟨SS, hSS⟩ : ∃ z : ByteArray, (⟨(padL s 2).toArray⟩ : ByteArray) = z := ⟨_, rfl⟩
  have zS : SS.size ≤ 31 := by rw [← hSS, Lib.size_eq]; exact padL_len s 2 (by omega) (by omega) (by omega)
  have CS : Hid (∀ w0, Below wA.heap.size wA w0 → Calls Tryz.prog 56 #[.int .i64 s, .int .i64 2] w0 fun e w' => e = .returned (.string SS) ∧ Below w0.heap.size w0 w') := Lib.hid fun w0 hb => hSS ▸ pad_any s 2 w0 (HPA.out.call hb) (by omega) (by omega) (by omega)
  obtain ⟨SY, hSY⟩ : ∃ z : ByteArray, (⟨(yearL y).toArray⟩ : ByteArray) = z := ⟨_, rfl⟩
  have zY : SY.size ≤ 32 := by rw [← hSY, Lib.size_eq]; exact yearL_len (by omega) (by omega)
  have HE : Hid ((⟨(textL6 y m d x k s).toArray⟩ : ByteArray) = SY ++ ⟨#[45]⟩ ++ SM ++ ⟨#[45]⟩ ++ SD ++ ⟨#[84]⟩ ++ SX ++ ⟨#[58]⟩ ++ SK ++ ⟨#[58]⟩ ++ SS) := Lib.hid (str_eqT (by simp only [app_eqT]; rw [← hSY, ← hSM, ← hSD, ← hSX, ← hSK, ← hSS]; rfl))
  have CY : Hid (∀ w0, Below wA.heap.size wA w0 → Calls Tryz.prog 55 #[.int .i64 y] w0 fun e w' => e = .returned (.string SY) ∧ Below w0.heap.size w0 w') := Lib.hid fun w0 hb => hSY ▸ yearT_any y w0 (HPA.out.call hb) (by omega) (by omega)
  clear hSM hSD hSX hSK hSS hSY b1 b2 b3 b4 b5 b6 b7 b8 b9 b10 b11 b12
  have r1 := cell_regrown d1
  have r2 := cell_regrown d2
  have r3 := cell_regrown d3
  have q0 := cell_regrown e0
  have q1 := cell_regrown e1
  have q2 := cell_regrown e2
  refine wp_region_below (by kernel_rfl) (by kernel_rfl) ?_
  repeat (go_big_quiet_step ((first | (go_at_call 55; exact Calls.regrown_of (by with_reducible exact CY.out _ (below_regrown _ _ _))) | (go_at_call 56; exact Calls.regrown_of (by first | with_reducible exact CM.out _ (below_regrown _ _ _) | with_reducible exact CD.out _ (below_regrown _ _ _) | with_reducible exact CX.out _ (below_regrown _ _ _) | with_reducible exact CK.out _ (below_regrown _ _ _) | with_reducible exact CS.out _ (below_regrown _ _ _))))))
  refine wpQuiet_nil ?_
  intro w9 hb9
  have HB9 := Lib.hid (thenB HA.out hb9)
  clear hb9
  go_wp2_with fail
  go_ret2
  have hk := HK.out _ HTx.out _ HB9.out
  rw [HE.out] at hk
  exact hk
end Go.Proofs.YtkfpnlenmdlmjaaGreatDoor
