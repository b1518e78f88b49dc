/- Offsets as texts: the program's OffsetText, the document's. -/
import Derived.Test.YtkfpnlenmdlmjaaGreatDoorZTxtA
namespace Go.Proofs.YtkfpnlenmdlmjaaGreatDoor
open Go.RowKit
def offE (n : Int) : Int := if n ≤ -86400 ∨ 86400 ≤ n ∨ n % 60 ≠ 0 then 4 else 0
def offS (n : Int) : List UInt8 := (if n < 0 then [45] else [43]) ++ padL ((if n < 0 then -n else n) / 3600) 2 ++ [58] ++ padL ((if n < 0 then -n else n) / 60 % 60) 2
def offL (n : Int) : List UInt8 := if offE n = 0 then offS n else []
theorem offS_len {n : Int} (h1 : -86400 < n) (h2 : n < 86400) : (offS n).length ≤ 100 := by
  have a := padL_len ((if n < 0 then -n else n) / 3600) 2 (by split <;> omega) (by split <;> omega) (by omega)
  have b := padL_len ((if n < 0 then -n else n) / 60 % 60) 2 (by split <;> omega) (by split <;> omega) (by omega)
  have c : (if n < 0 then [45] else [43] : List UInt8).length = 1 := by split <;> rfl
  unfold offS
  simp only [List.length_append, c, List.length_cons, List.length_nil]
  omega
theorem tmodT_neg {n : Int} (h : n < 0) : Int.tmod n 60 = 0 ↔ n % 60 = 0 := by
  have e : Int.tmod n 60 = -((-n) % 60) := by
    rw [show n = -(-n) by omega, Int.neg_tmod, Int.tmod_eq_emod_of_nonneg (by omega)]
    simp
  rw [e]
  omega
theorem offE_bad {n : Int} (h : n ≤ -86400 ∨ 86400 ≤ n ∨ n % 60 ≠ 0) : offE n = 4 := if_pos h
theorem offE_ok {n : Int} (h1 : -86400 < n) (h2 : n < 86400) (h3 : n % 60 = 0) : offE n = 0 := if_neg (by omega)
theorem offL_bad {n : Int} (h : n ≤ -86400 ∨ 86400 ≤ n ∨ n % 60 ≠ 0) : offL n = [] := if_neg (by rw [offE_bad h]; decide)
theorem offL_ok {n : Int} (h1 : -86400 < n) (h2 : n < 86400) (h3 : n % 60 = 0) : offL n = offS n := if_pos (offE_ok h1 h2 h3)
set_option maxHeartbeats 4000000 in
theorem offText_any (n : Int) (w : World) (hp : Pow w) :
    Calls Tryz.prog 33 #[.int .i64 n] w fun e w' => e = .returned (.tuple #[.string ⟨(offL n).toArray⟩, errV (offE n)]) ∧ Below w.heap.size w w' := by
  have HE4 : Hid (errV 4 = .iface 25 (.int .i64 4)) := Lib.hid (errV_hit (by decide))
  by_cases h1 : n ≤ -86400
  · have HL := Lib.hid (offL_bad (.inl h1))
    have HE := Lib.hid (offE_bad (.inl h1))
    have hd : decide (n ≤ -86400) = true := decide_eq_true h1
    go_enter Tryz.func33, Tryz.ntmps33
    go_wp2_with fail
    go_ret2
    exact ⟨by rw [HL.out, HE.out, HE4.out]; rfl, Below.refl _ _⟩
  · have hd1 : decide (n ≤ -86400) = false := decide_eq_false h1
    by_cases h2 : 86400 ≤ n
    · have HL := Lib.hid (offL_bad (.inr (.inl h2)))
      have HE := Lib.hid (offE_bad (.inr (.inl h2)))
      have hd : decide (86400 ≤ n) = true := decide_eq_true h2
      clear h1
      go_enter Tryz.func33, Tryz.ntmps33
      go_wp2_with fail
      go_ret2
      exact ⟨by rw [HL.out, HE.out, HE4.out]; rfl, Below.refl _ _⟩
    · have hd2 : decide (86400 ≤ n) = false := decide_eq_false h2
      by_cases h3 : n % 60 = 0
      · have HL := Lib.hid (offL_ok (by omega) (by omega) h3)
        have HE := Lib.hid (offE_ok (by omega) (by omega) h3)
        by_cases hn : n < 0
        · have hq : (Int.tmod n 60 != 0) = false := by simpa using (tmodT_neg hn).2 h3
          have hq2 : Int.tmod n 60 = 0 := (tmodT_neg hn).2 h3
          have a1 := padL_len (-n / 3600) 2 (by omega) (by omega) (by omega)
          have a2 := padL_len (-n / 60 % 60) 2 (by omega) (by omega) (by omega)
          have C1 : Hid (∀ w0, Below w.heap.size w w0 → Calls Tryz.prog 56 #[.int .i64 (-n / 3600), .int .i64 2] w0 fun e w' => e = .returned (.string ⟨(padL (-n / 3600) 2).toArray⟩) ∧ Below w0.heap.size w0 w') := Lib.hid fun w0 hb => pad_any _ 2 w0 (hp.call hb) (by omega) (by omega) (by omega)
          have C2 : Hid (∀ w0, Below w.heap.size w w0 → Calls Tryz.prog 56 #[.int .i64 (-n / 60 % 60), .int .i64 2] w0 fun e w' => e = .returned (.string ⟨(padL (-n / 60 % 60) 2).toArray⟩) ∧ Below w0.heap.size w0 w') := Lib.hid fun w0 hb => pad_any _ 2 w0 (hp.call hb) (by omega) (by omega) (by omega)
          obtain ⟨S1, hS1⟩ : ∃ S : ByteArray, (⟨(padL (-n / 3600) 2).toArray⟩ : ByteArray) = S := ⟨_, rfl⟩
          obtain ⟨S2, hS2⟩ : ∃ S : ByteArray, (⟨(padL (-n / 60 % 60) 2).toArray⟩ : ByteArray) = S := ⟨_, rfl⟩
          have HS : Hid ((⟨(offS n).toArray⟩ : ByteArray) = ⟨#[45]⟩ ++ S1 ++ ⟨#[58]⟩ ++ S2) := Lib.hid (str_eqT (by simp only [app_eqT]; rw [← hS1, ← hS2]; unfold offS; rw [if_pos hn, if_pos hn]))
          have z1 : S1.size ≤ 31 := by rw [← hS1, Lib.size_eq]; exact a1
          have z2 : S2.size ≤ 31 := by rw [← hS2, Lib.size_eq]; exact a2
          rw [hS1] at C1
          rw [hS2] at C2
          have hm : 0 ≤ -n := by omega
          have hm2 : -n ≤ 86400 := by omega
          have e1 : wrap64 (-n.tdiv 3600) = -n / 3600 := by
            have k : -n.tdiv 3600 = -n / 3600 := by rw [← Int.neg_tdiv, Int.tdiv_eq_ediv_of_nonneg (by omega)]
            rw [k]
            exact IntWalk.wrap64_in (-n / 3600) (by omega)
          have e2 : (wrap64 (-n.tdiv 60)).tmod 60 = -n / 60 % 60 := by
            have k : -n.tdiv 60 = -n / 60 := by rw [← Int.neg_tdiv, Int.tdiv_eq_ediv_of_nonneg (by omega)]
            have k2 : wrap64 (-n / 60) = -n / 60 := IntWalk.wrap64_in (-n / 60) (by omega)
            rw [k, k2, Int.tmod_eq_emod_of_nonneg (by omega)]
          have D2 : Hid (∀ w0, Below w.heap.size w w0 → Calls Tryz.prog 56 #[.int .i64 ((wrap64 (-n.tdiv 60)).tmod 60), .int .i64 2] w0 fun e w' => e = .returned (.string S2) ∧ Below w0.heap.size w0 w') := Lib.hid (by rw [e2]; exact C2.out)
          have D1 : Hid (∀ w0, Below w.heap.size w w0 → Calls Tryz.prog 56 #[.int .i64 (wrap64 (-n.tdiv 3600)), .int .i64 2] w0 fun e w' => e = .returned (.string S1) ∧ Below w0.heap.size w0 w') := Lib.hid (by rw [e1]; exact C1.out)
          clear hS1 hS2 a1 a2 h1 h2 h3 e1 e2
          go_enter Tryz.func33, Tryz.ntmps33
          go_wp2_with (first
            | (go_at_call 56; (with_reducible refine (D1.out _ (Below.refl _ _)).mono ?_); rintro e w1 ⟨rfl, hb1⟩; have HB1 := Lib.hid hb1; clear hb1)
            | (go_at_call 56; (with_reducible refine (D2.out _ HB1.out).mono ?_); rintro e w2 ⟨rfl, hb2⟩; have HB2 := Lib.hid (thenB HB1.out hb2); clear hb2))
          go_ret2
          exact ⟨by rw [HL.out, HE.out, HS.out]; rfl, HB2.out⟩
        · have hm : 0 ≤ n := by omega
          have hq : (n % 60 != 0) = false := by simpa using h3
          have a1 := padL_len (n / 3600) 2 (by omega) (by omega) (by omega)
          have a2 := padL_len (n / 60 % 60) 2 (by omega) (by omega) (by omega)
          have C1 : Hid (∀ w0, Below w.heap.size w w0 → Calls Tryz.prog 56 #[.int .i64 (n / 3600), .int .i64 2] w0 fun e w' => e = .returned (.string ⟨(padL (n / 3600) 2).toArray⟩) ∧ Below w0.heap.size w0 w') := Lib.hid fun w0 hb => pad_any _ 2 w0 (hp.call hb) (by omega) (by omega) (by omega)
          have C2 : Hid (∀ w0, Below w.heap.size w w0 → Calls Tryz.prog 56 #[.int .i64 (n / 60 % 60), .int .i64 2] w0 fun e w' => e = .returned (.string ⟨(padL (n / 60 % 60) 2).toArray⟩) ∧ Below w0.heap.size w0 w') := Lib.hid fun w0 hb => pad_any _ 2 w0 (hp.call hb) (by omega) (by omega) (by omega)
          obtain ⟨S1, hS1⟩ : ∃ S : ByteArray, (⟨(padL (n / 3600) 2).toArray⟩ : ByteArray) = S := ⟨_, rfl⟩
          obtain ⟨S2, hS2⟩ : ∃ S : ByteArray, (⟨(padL (n / 60 % 60) 2).toArray⟩ : ByteArray) = S := ⟨_, rfl⟩
          have HS : Hid ((⟨(offS n).toArray⟩ : ByteArray) = ⟨#[43]⟩ ++ S1 ++ ⟨#[58]⟩ ++ S2) := Lib.hid (str_eqT (by simp only [app_eqT]; rw [← hS1, ← hS2]; unfold offS; rw [if_neg hn, if_neg hn]))
          have z1 : S1.size ≤ 31 := by rw [← hS1, Lib.size_eq]; exact a1
          have z2 : S2.size ≤ 31 := by rw [← hS2, Lib.size_eq]; exact a2
          rw [hS1] at C1
          rw [hS2] at C2
          have hm2 : n ≤ 86400 := by omega
          clear hS1 hS2 a1 a2 h1 h2 h3 hn
          go_enter Tryz.func33, Tryz.ntmps33
          go_wp2_with (first
            | (go_at_call 56; (with_reducible refine (C1.out _ (Below.refl _ _)).mono ?_); rintro e w1 ⟨rfl, hb1⟩; have HB1 := Lib.hid hb1; clear hb1)
            | (go_at_call 56; (with_reducible refine (C2.out _ HB1.out).mono ?_); rintro e w2 ⟨rfl, hb2⟩; have HB2 := Lib.hid (thenB HB1.out hb2); clear hb2))
          go_ret2
          exact ⟨by rw [HL.out, HE.out, HS.out]; rfl, HB2.out⟩
      · have HL := Lib.hid (offL_bad (.inr (.inr h3)))
        have HE := Lib.hid (offE_bad (.inr (.inr h3)))
        by_cases hn : n < 0
        · have hq : (Int.tmod n 60 != 0) = true := by simpa using fun h => h3 ((tmodT_neg hn).1 h)
          clear h1 h2 h3
          go_enter Tryz.func33, Tryz.ntmps33
          go_wp2_with fail
          go_ret2
          exact ⟨by rw [HL.out, HE.out, HE4.out]; rfl, Below.refl _ _⟩
        · have hm : 0 ≤ n := by omega
          have hq : (n % 60 != 0) = true := by simpa using h3
          clear h1 h2 h3 hn
          go_enter Tryz.func33, Tryz.ntmps33
          go_wp2_with fail
          go_ret2
          exact ⟨by rw [HL.out, HE.out, HE4.out]; rfl, Below.refl _ _⟩
end Go.Proofs.YtkfpnlenmdlmjaaGreatDoor
