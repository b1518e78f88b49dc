/- Numbers written with so many digits at least: the program's pad, the document's Pad. -/
import Derived.Test.YtkfpnlenmdlmjaaGreatDoorZTabs
import Derived.Test.YtkfpnlenmdlmjaaGreatDoorZTxtLay
import Derived.Test.YtkfpnlenmdlmjaaGreatDoorZG2
import Derived.Test.YtkfpnlenmdlmjaaGreatDoorZQTail
import Derived.Lib.Hide
import Derived.Lib.ItoaLen
import Derived.Lib.AppendIntMem
import Derived.Lib.Repeat
import Derived.WalkSmall
import Derived.IntWalk
namespace Go.Proofs.YtkfpnlenmdlmjaaGreatDoor
open Go.RowKit Go.Shelf
theorem str_eqT {l : List UInt8} {s : ByteArray} (h : s.data.toList = l) : (⟨l.toArray⟩ : ByteArray) = s := by subst h; simp
theorem app_eqT (a b : ByteArray) : (a ++ b).data.toList = a.data.toList ++ b.data.toList := by rw [ByteArray.data_append, Array.toList_append]
/-- The library's table of powers of ten lies where it lies. -/
def Pow (w : World) : Prop := Lib.TabIs Tryz.prog w "internal/strconv.uint64pow10" .u64 Lib.pow10Tab
theorem Tryz.gPow : Tryz.prog.globalNamed "internal/strconv.uint64pow10" = some 3 := by kernel_rfl
theorem Pow.lt {w : World} (h : Pow w) : 3 < w.heap.size :=
  World.block_lt_of_cell? _ _ (Lib.TabIs.cell h Tryz.gPow 0 (by decide))
theorem Pow.call {w w' : World} (h : Pow w) (hb : Below w.heap.size w w') : Pow w' := var?_below hb Tryz.gPow h.lt h
theorem itoaP (n : Int) (w : World) (hp : Pow w) (h0 : -9223372036854775808 ≤ n) (h1 : n ≤ 9223372036854775807) :
    Calls Tryz.prog 59 #[.int .i64 n] w fun e w' => e = .returned (.string ⟨(Lib.itoa n).toArray⟩) ∧ Below w.heap.size w w' := by
  have c := Any.strconv_Itoa layIt n h0 h1 w hp
  refine c.mono ?_
  rintro e w' ⟨rfl, k, os, rfl⟩
  exact ⟨rfl, Lib.below_grow _ _ (Nat.le_refl _) _ _⟩
theorem bxR : Builder.Extra Tryz.prog layRep_ren := { sizeBuilder := by kernel_rfl, liesBuilder := by kernel_rfl, t5 := Tryz.underlying5, a5 := Tryz.isAgg5, z5 := Tryz.sizeOf5, v5 := Tryz.zeroValue5, infoByte := by kernel_rfl, cellsByte := by kernel_rfl, sizeByte := by kernel_rfl, neB5 := by decide }
theorem rep_zero (c : Nat) : Lib.repeatL [48] c = List.replicate c 48 := by
  induction c with
  | zero => rfl
  | succ c ih => rw [Lib.repeatL, ih]; rfl
theorem repeatP (c : Nat) (w : World) (hc : c ≤ 100) :
    Calls Tryz.prog 94 #[.string ⟨#[48]⟩, .int .i64 c] w fun e w' => e = .returned (.string ⟨(List.replicate c 48).toArray⟩) ∧ Below w.heap.size w w' := by
  have k := Any.strings_Repeat layRep bxR ⟨#[48]⟩ c w (by omega) (by show 1 * c ≤ _; omega)
  rw [show (⟨#[48]⟩ : ByteArray).data.toList = [48] from rfl, rep_zero] at k
  exact k
/-- A number, with so many digits at least. -/
def padL (n : Int) (wd : Nat) : List UInt8 := List.replicate (wd - (Lib.itoa n).length) 48 ++ Lib.itoa n
theorem padL_len (n : Int) (wd : Nat) (h0 : -9223372036854775808 ≤ n) (h1 : n ≤ 9223372036854775807) (hw : wd ≤ 10) : (padL n wd).length ≤ 31 := by
  have := Lib.itoa_length_le n h0 h1
  unfold padL
  rw [List.length_append, List.length_replicate]
  omega
set_option maxHeartbeats 2000000 in
theorem pad_any (n : Int) (wd : Nat) (w : World) (hp : Pow w) (h0 : -9223372036854775808 ≤ n) (h1 : n ≤ 9223372036854775807) (hw : wd ≤ 10) :
    Calls Tryz.prog 56 #[.int .i64 n, .int .i64 (wd : Int)] w fun e w' => e = .returned (.string ⟨(padL n wd).toArray⟩) ∧ Below w.heap.size w w' := by
  have CI := Lib.hid (itoaP n w hp h0 h1)
  have hl := Lib.itoa_length_le n h0 h1
  obtain ⟨S, hS⟩ : ∃ S : ByteArray, (⟨(Lib.itoa n).toArray⟩ : ByteArray) = S := ⟨_, rfl⟩
  rw [hS] at CI
  have hSl : S.data.toList = Lib.itoa n := by rw [← hS]
  obtain ⟨c, hc⟩ : ∃ c, wd - (Lib.itoa n).length = c := ⟨_, rfl⟩
  have hsz : S.size = (Lib.itoa n).length := by rw [Lib.size_eq, hSl]
  have CR : Hid (∀ w0, Calls Tryz.prog 94 #[.string ⟨#[48]⟩, .int .i64 c] w0 fun e w' => e = .returned (.string ⟨(List.replicate c 48).toArray⟩) ∧ Below w0.heap.size w0 w') := Lib.hid fun w0 => repeatP c w0 (by omega)
  obtain ⟨R, hR⟩ : ∃ R : ByteArray, (⟨(List.replicate c 48).toArray⟩ : ByteArray) = R := ⟨_, rfl⟩
  rw [hR] at CR
  have hRs : R.size = c := by rw [← hR, Lib.size_eq]; simp
  have HE : Hid ((⟨(padL n wd).toArray⟩ : ByteArray) = R ++ S) := Lib.hid (str_eqT (by rw [app_eqT, hSl, ← hR]; unfold padL; rw [hc]))
  have hs21 : S.size ≤ 21 := by omega
  have hr10 : R.size ≤ 10 := by omega
  have e1 : max 0 ((wd : Int) - (S.size : Int)) = (c : Int) := by omega
  have CR2 : Hid (∀ w0, Calls Tryz.prog 94 #[.string ⟨#[48]⟩, .int .i64 (max 0 ((wd : Int) - (S.size : Int)))] w0 fun e w' => e = .returned (.string R) ∧ Below w0.heap.size w0 w') := Lib.hid (by rw [e1]; exact CR.out)
  clear hS hSl hR hc hsz e1 CR hRs hl
  go_enter Tryz.func56, Tryz.ntmps56
  go_wp2_with (first
    | (go_at_call 59; (with_reducible refine CI.out.mono ?_); rintro e w1 ⟨rfl, hb1⟩; have HB1 := Lib.hid hb1; clear hb1)
    | (go_at_call 94; (with_reducible refine (CR2.out _).mono ?_); rintro e w2 ⟨rfl, hb2⟩; have HB2 := Lib.hid (thenB HB1.out hb2); clear hb2))
  go_ret
  exact ⟨by rw [HE.out]; rfl, HB2.out⟩
end Go.Proofs.YtkfpnlenmdlmjaaGreatDoor
