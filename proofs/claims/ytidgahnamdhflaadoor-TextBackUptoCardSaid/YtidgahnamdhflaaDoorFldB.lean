/- The walks of text.cut, text.Fold and the document's Fold. -/
import Derived.Test.YtidgahnamdhflaaDoorFldA
import Derived.Test.YtidgahnamdhflaaDoorFldLay
import Derived.IntWalk
import Derived.Lib.Hide
import Derived.Lib.OthersKept
import Derived.BigCall
import Derived.Deep.QuietTactic
import Derived.BigQuiet
namespace Go.Proofs.YtidgahnamdhflaaDoor
open Go.RowKit Go.Shelf Fld
theorem bxW : Builder.Extra Tryd.prog layWS_ren := { sizeBuilder := by kernel_rfl, liesBuilder := by kernel_rfl, t5 := Tryd.underlying5, a5 := Tryd.isAgg5, z5 := Tryd.sizeOf5, v5 := Tryd.zeroValue5, infoByte := by kernel_rfl, cellsByte := by kernel_rfl, sizeByte := by kernel_rfl, neB5 := by decide }
theorem bxS : Builder.Extra Tryd.prog layBS_ren := { sizeBuilder := by kernel_rfl, liesBuilder := by kernel_rfl, t5 := Tryd.underlying5, a5 := Tryd.isAgg5, z5 := Tryd.sizeOf5, v5 := Tryd.zeroValue5, infoByte := by kernel_rfl, cellsByte := by kernel_rfl, sizeByte := by kernel_rfl, neB5 := by decide }
/-- A builder of the call's own, in block b. -/
def Bld (b : Nat) (l : List UInt8) (w : World) : Prop := Lib.IsBuilderF 72 5 b b (Lib.byteCells l) w
theorem strCells_byte (s : ByteArray) : Lib.strCells s = Lib.byteCells s.data.toList := rfl
theorem writeS (b : Nat) (l : List UInt8) (s : ByteArray) (w : World) (h : Bld b l w) (hl : l.length + s.size ≤ 140737488355328) (hb : b ≤ w.heap.size) :
    Calls Tryd.prog 49 #[.pointer (some ⟨b, 0, none⟩), .string s] w fun e w' => e = .returned (.tuple #[.int .i64 s.size, .nilIface]) ∧ Bld b (l ++ s.data.toList) w' ∧ Below b w w' := by
  refine (Any.Builder_WriteString_k layWS bxW b b _ s w h (by rw [Lib.byteCells_length]; exact hl) hb).mono ?_
  rintro e w' ⟨rfl, h1, h2, -⟩
  exact ⟨rfl, by unfold Bld; rw [Lib.byteCells_append]; exact .inr h1, h2⟩
theorem strB (b : Nat) (l : List UInt8) (w : World) (h : Bld b l w) (hb : b ≤ w.heap.size) :
    Calls Tryd.prog 32 #[.pointer (some ⟨b, 0, none⟩)] w fun e w' => e = .returned (.string ⟨l.toArray⟩) ∧ Below b w w' := by
  refine (Any.Builder_String_any_k layBS bxS b b l w h hb).mono ?_
  rintro e w' ⟨rfl, -, h2, -⟩
  exact ⟨rfl, h2⟩
theorem Bld.new (w : World) : Bld w.heap.size [] (w.alloc (.cells #[.pointer none, .slice none 0 0] 72)) := Lib.IsBuilderF.of (Lib.fresh_isBuilder 72 5 w)
theorem runeStart_any (b : UInt8) (w : World) : Calls Tryd.prog 82 #[.int .u8 b.toNat] w fun e w' => e = .returned (.bool (stB b)) ∧ w' = w := by
  have hb := b.toNat_lt
  refine (Any.utf8_RuneStart layRS (b.toNat : Int) w (by omega) (by omega)).mono ?_
  rintro e w' ⟨rfl, rfl⟩
  refine ⟨?_, rfl⟩
  congr 2
  unfold Lib.runeStart stB
  rw [Bool.eq_iff_iff]; simp; omega
theorem goesOn_any (b : UInt8) (w : World) : Calls Tryd.prog 56 #[.int .u8 b.toNat] w fun e w' => e = .returned (.bool (!stB b)) ∧ w' = w := by
  have hb := b.toNat_lt
  by_cases h1 : 128 ≤ b.toNat
  · by_cases h2 : b.toNat ≤ 191
    · go_enter Tryd.func56, Tryd.ntmps56
      go_wp2
      go_ret
      exact ⟨by simp [stB, h1, h2]; omega, rfl⟩
    · go_enter Tryd.func56, Tryd.ntmps56
      go_wp2
      go_ret
      exact ⟨by simp [stB, h1]; omega, rfl⟩
  · go_enter Tryd.func56, Tryd.ntmps56
    go_wp2
    go_ret
    exact ⟨by simp [stB]; omega, rfl⟩
theorem len_eq (s : ByteArray) : s.data.toList.length = s.size := (Lib.size_eq s).symm
theorem getD_byte (s : ByteArray) (j : Nat) (h : j < s.size) : s.data.toList.getD j 0 = s[j] := by
  rw [List.getD, List.getElem?_eq_getElem (by rw [len_eq]; exact h)]
  rfl
set_option maxRecDepth 100000 in
set_option maxHeartbeats 1000000 in
theorem cut_any (s : ByteArray) (m : Nat) (M : Int) (hM : M = (m : Int)) (w : World) (hs : s.size ≤ 1099511627776) (hm : 4 ≤ m) (hm2 : m ≤ 1000) :
    Calls Tryd.prog 68 #[.string s, .int .i64 M] w fun e w' => e = .returned (.int .i64 (cutN s.data.toList m : Nat)) ∧ w' = w := by
  subst hM
  have hl := len_eq s
  by_cases hle : s.size ≤ m
  · have hn : cutN s.data.toList m = s.size := by unfold cutN; rw [if_pos (by omega), hl]
    rw [hn]
    clear hn hl
    go_enter Tryd.func68, Tryd.ntmps68
    go_wp2
    go_ret
    exact ⟨rfl, rfl⟩
  · obtain ⟨N, hn⟩ : ∃ N, cutN s.data.toList m = N := ⟨_, rfl⟩
    have h0 : cutFrom s.data.toList m 0 = N := by rw [← hn]; unfold cutN; rw [if_neg (by omega)]
    rw [hn]
    have H0 := Lib.hid h0
    clear hn hl h0
    go_enter Tryd.func68, Tryd.ntmps68
    go_wp2
    go_loop [5] (fun n => ∃ k j : Nat, k ≤ 4 ∧ j + k = m ∧ n = .int .i64 (j : Int) ∧ Hid (cutFrom s.data.toList m k = N)) (fun n => (intOf n).toNat)
    case atStart => exact ⟨0, m, by omega, by omega, rfl, H0⟩
    case round =>
      obtain ⟨k, j, hk, hj, rfl, HK⟩ := hrel
      by_cases hk4 : k < 4
      · have hj1 : j < s.size := by omega
        have g1 := getD_byte s j hj1
        have g2 : m - k = j := by omega
        rcases hst : stB s[j] with _ | _
        · have HK1 := Lib.hid (cutFrom_miss s.data.toList m k hk4 (by rw [g2, g1]; exact hst) ▸ HK.out)
          clear g1 g2
          have t1 : ((m : Int) - 4 < (j : Int)) := by omega
          have t2 : 0 < j := by omega
          go_wp2_with (go_at_call 82; refine (runeStart_any _ _).mono ?_; rintro e w' ⟨rfl, rfl⟩)
          go_round
          case rel => exact ⟨k + 1, j - 1, by omega, by omega, by go_num, HK1⟩
          case measure => simp [intOf]; omega
        · have e : N = j := by rw [← HK.out, cutFrom_hit s.data.toList m k hk4 (by rw [g2, g1]; exact hst)]; exact g2
          subst e
          clear g1 g2
          have t1 : ((m : Int) - 4 < (N : Int)) := by omega
          have t2 : 0 < N := by omega
          go_wp2_with (go_at_call 82; refine (runeStart_any _ _).mono ?_; rintro e w' ⟨rfl, rfl⟩)
          go_ret
          exact ⟨rfl, rfl⟩
      · have e : N = m := by rw [← HK.out, cutFrom_end _ _ _ (by omega)]
        subst e
        have t1 : ¬ ((N : Int) - 4 < (j : Int)) := by omega
        go_wp2
        go_ret
        exact ⟨rfl, rfl⟩
end Go.Proofs.YtidgahnamdhflaaDoor
