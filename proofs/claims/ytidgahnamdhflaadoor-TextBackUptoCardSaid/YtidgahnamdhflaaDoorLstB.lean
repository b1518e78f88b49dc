/- A builder beside other rows; text.Escape and the document's Escape. -/
import Derived.Test.YtidgahnamdhflaaDoorFldI
import Derived.Test.YtidgahnamdhflaaDoorLstA
namespace Go.Proofs.YtidgahnamdhflaaDoor
open Go.RowKit Go.Shelf Fld
theorem bxB : Builder.Extra Tryd.prog layWB_ren := { sizeBuilder := by kernel_rfl, liesBuilder := by kernel_rfl, t5 := Tryd.underlying5, a5 := Tryd.isAgg5, z5 := Tryd.sizeOf5, v5 := Tryd.zeroValue5, infoByte := by kernel_rfl, cellsByte := by kernel_rfl, sizeByte := by kernel_rfl, neB5 := by decide }
abbrev Kept (b : Nat) (w w' : World) : Prop := Lib.OthersKept 5 (some b) w w'
theorem writeBk (b : Nat) (l : List UInt8) (c : UInt8) (C : Int) (hC : C = (c.toNat : Int)) (w : World) (h : Bld b l w) (hl : l.length + 1 ≤ 140737488355328) (hb : b ≤ w.heap.size) :
    Calls Tryd.prog 45 #[.pointer (some ⟨b, 0, none⟩), .int .u8 C] w fun e w' => e = .returned .nilIface ∧ Bld b (l ++ [c]) w' ∧ Below b w w' ∧ Kept b w w' := by
  subst hC
  refine (Any.Builder_WriteByte_k layWB bxB b b _ (c.toNat : Int) w h (by rw [Lib.byteCells_length]; exact hl) hb).mono ?_
  rintro e w' ⟨rfl, h1, h2, h3⟩
  exact ⟨rfl, by unfold Bld; rw [Lib.byteCells_append]; exact .inr h1, h2, h3⟩
theorem strBk (b : Nat) (l : List UInt8) (w : World) (h : Bld b l w) (hb : b ≤ w.heap.size) :
    Calls Tryd.prog 32 #[.pointer (some ⟨b, 0, none⟩)] w fun e w' => e = .returned (.string ⟨l.toArray⟩) ∧ Bld b l w' ∧ Below b w w' ∧ Kept b w w' := by
  refine (Any.Builder_String_any_k layBS bxS b b l w h hb).mono ?_
  rintro e w' ⟨rfl, h1, h2, h3⟩
  exact ⟨rfl, h1, h2, h3⟩
theorem byte_lit {s : ByteArray} {i : Nat} {h : i < s.size} {v : UInt8} (e : s[i] = v) (n : Int) (hn : n = (v.toNat : Int)) : ((s[i].toNat : Int) == n) = true := by rw [e, hn]; simp
theorem byte_not {s : ByteArray} {i : Nat} {h : i < s.size} {v : UInt8} (e : s[i] ≠ v) (n : Int) (hn : n = (v.toNat : Int)) : ((s[i].toNat : Int) == n) = false := by
  rw [hn]
  simpa using fun h : (s[i].toNat : Int) = v.toNat => e (UInt8.toNat_inj.1 (by omega))
theorem one_ext (s : ByteArray) (i : Nat) (h : i < s.size) : s.extract i (i + 1) = ⟨#[s[i]]⟩ := by
  refine (str_eq (l := [s[i]]) ?_)
  rw [ext_mid, show i + 1 - i = 1 by omega, List.drop_eq_getElem_cons (by rw [len_eq]; exact h)]
  rfl
/-- What a byte is to Escape. -/
theorem esc_cases (b : UInt8) : b = 92 ∧ escB b = [92, 92] ∨ b = 44 ∧ escB b = [92, 44] ∨ b = 59 ∧ escB b = [92, 59] ∨ b = 10 ∧ escB b = [92, 110] ∨ (b ≠ 92 ∧ b ≠ 44 ∧ b ≠ 59 ∧ b ≠ 10) ∧ escB b = [b] := by
  unfold escB
  by_cases h1 : b = 92
  · subst h1; simp
  · by_cases h2 : b = 44
    · subst h2; simp
    · by_cases h3 : b = 59
      · subst h3; simp
      · by_cases h4 : b = 10
        · subst h4; simp
        · simp [h1, h2, h3, h4]
set_option maxRecDepth 100000 in
set_option maxHeartbeats 8000000 in
theorem escape_any (s : ByteArray) (w : World) (hs : s.size ≤ 1099511627776) :
    Calls Tryd.prog 47 #[.string s] w fun e w' => e = .returned (.string ⟨(escL s.data.toList).toArray⟩) ∧ Below w.heap.size w w' := by
  go_enter Tryd.func47, Tryd.ntmps47
  go_wp2
  go_loopw [8] (fun c wr => ∃ k : Nat, c = .int .i64 (k : Int) ∧ k ≤ s.size ∧ Hid (Bld w.heap.size (escL (s.data.toList.take k)) wr ∧ Below w.heap.size w wr)) (fun c _ => s.size - (intOf c).toNat)
  case atStart => exact ⟨0, rfl, by omega, Lib.hid ⟨Bld.new w, Below.alloc (Below.refl _ _) (Nat.le_refl _) _⟩⟩
  case round =>
    obtain ⟨k, rfl, hk, HR⟩ := hrel
    have HSZ := Lib.hid HR.out.2.size
    have HL : Hid ((escL (s.data.toList.take k)).length ≤ 2 * s.size) := Lib.hid (by have := escL_len (s.data.toList.take k); rw [List.length_take, len_eq] at this; omega)
    by_cases hks : k < s.size
    · have HX : Hid (escL (s.data.toList.take (k + 1)) = escL (s.data.toList.take k) ++ escB s[k]) := Lib.hid (escL_snoc s.data.toList k (by rw [len_eq]; exact hks))
      rcases esc_cases s[k] with ⟨h, he⟩ | ⟨h, he⟩ | ⟨h, he⟩ | ⟨h, he⟩ | ⟨⟨n1, n2, n3, n4⟩, he⟩
      · have b1 := byte_lit h 92 rfl
        have HE := Lib.hid he
        have hx := one_ext s k hks
        rw [h] at hx
        have q1 : (0 : Int) ≤ (k : Int) + 1 := by omega
        have q2 : ((k : Int) + 1).toNat = k + 1 := by omega
        have q3 : (k : Int) + 1 ≤ (s.size : Int) := by omega
        have q4 : (k : Int) ≤ (k : Int) + 1 := by omega
        clear he h
        go_wp2_with (go_at_call 49; refine (writeS w.heap.size _ _ _ HR.out.1 (by have := HL.out; rw [ByteArray.size_append]; show _ + (1 + 1) ≤ _; omega) HSZ.out).mono ?_; rintro e w1 ⟨rfl, hB, hb⟩; have HB := Lib.hid hB; have HW := Lib.hid (HR.out.2.trans hb); clear hB hb)
        go_roundw
        case rel => exact ⟨k + 1, by go_num, by omega, Lib.hid ⟨by rw [HX.out, HE.out]; exact HB.out, HW.out⟩⟩
        case measure => simp [intOf]; omega
      · have b1 := byte_lit h 44 rfl
        have b2 := byte_not (v := 92) (by rw [h]; decide) 92 rfl
        have HE := Lib.hid he
        have hx := one_ext s k hks
        rw [h] at hx
        have q1 : (0 : Int) ≤ (k : Int) + 1 := by omega
        have q2 : ((k : Int) + 1).toNat = k + 1 := by omega
        have q3 : (k : Int) + 1 ≤ (s.size : Int) := by omega
        have q4 : (k : Int) ≤ (k : Int) + 1 := by omega
        clear he h
        go_wp2_with (go_at_call 49; refine (writeS w.heap.size _ _ _ HR.out.1 (by have := HL.out; rw [ByteArray.size_append]; show _ + (1 + 1) ≤ _; omega) HSZ.out).mono ?_; rintro e w1 ⟨rfl, hB, hb⟩; have HB := Lib.hid hB; have HW := Lib.hid (HR.out.2.trans hb); clear hB hb)
        go_roundw
        case rel => exact ⟨k + 1, by go_num, by omega, Lib.hid ⟨by rw [HX.out, HE.out]; exact HB.out, HW.out⟩⟩
        case measure => simp [intOf]; omega
      · have b1 := byte_lit h 59 rfl
        have b2 := byte_not (v := 92) (by rw [h]; decide) 92 rfl
        have b3 := byte_not (v := 44) (by rw [h]; decide) 44 rfl
        have HE := Lib.hid he
        have hx := one_ext s k hks
        rw [h] at hx
        have q1 : (0 : Int) ≤ (k : Int) + 1 := by omega
        have q2 : ((k : Int) + 1).toNat = k + 1 := by omega
        have q3 : (k : Int) + 1 ≤ (s.size : Int) := by omega
        have q4 : (k : Int) ≤ (k : Int) + 1 := by omega
        clear he h
        go_wp2_with (go_at_call 49; refine (writeS w.heap.size _ _ _ HR.out.1 (by have := HL.out; rw [ByteArray.size_append]; show _ + (1 + 1) ≤ _; omega) HSZ.out).mono ?_; rintro e w1 ⟨rfl, hB, hb⟩; have HB := Lib.hid hB; have HW := Lib.hid (HR.out.2.trans hb); clear hB hb)
        go_roundw
        case rel => exact ⟨k + 1, by go_num, by omega, Lib.hid ⟨by rw [HX.out, HE.out]; exact HB.out, HW.out⟩⟩
        case measure => simp [intOf]; omega
      · have b1 := byte_lit h 10 rfl
        have b2 := byte_not (v := 92) (by rw [h]; decide) 92 rfl
        have b3 := byte_not (v := 44) (by rw [h]; decide) 44 rfl
        have b4 := byte_not (v := 59) (by rw [h]; decide) 59 rfl
        have HE := Lib.hid he
        clear he h
        go_wp2_with (go_at_call 49; refine (writeS w.heap.size _ _ _ HR.out.1 (by have := HL.out; show _ + 2 ≤ _; omega) HSZ.out).mono ?_; rintro e w1 ⟨rfl, hB, hb⟩; have HB := Lib.hid hB; have HW := Lib.hid (HR.out.2.trans hb); clear hB hb)
        go_roundw
        case rel => exact ⟨k + 1, by go_num, by omega, Lib.hid ⟨by rw [HX.out, HE.out]; exact HB.out, HW.out⟩⟩
        case measure => simp [intOf]; omega
      · have b2 := byte_not n1 92 rfl
        have b3 := byte_not n2 44 rfl
        have b4 := byte_not n3 59 rfl
        have b5 := byte_not n4 10 rfl
        have HE := Lib.hid he
        clear he n1 n2 n3 n4
        go_wp2_with (go_at_call 45; refine (writeBk w.heap.size _ s[k] _ rfl _ HR.out.1 (by have := HL.out; omega) HSZ.out).mono ?_; rintro e w1 ⟨rfl, hB, hb, -⟩; have HB := Lib.hid hB; have HW := Lib.hid (HR.out.2.trans hb); clear hB hb)
        go_roundw
        case rel => exact ⟨k + 1, by go_num, by omega, Lib.hid ⟨by rw [HX.out, HE.out]; exact HB.out, HW.out⟩⟩
        case measure => simp [intOf]; omega
    · obtain rfl : k = s.size := by omega
      have HE : Hid (escL (s.data.toList.take s.size) = escL s.data.toList) := Lib.hid (by rw [List.take_of_length_le (by rw [len_eq]; exact Nat.le_refl _)])
      go_wp2_with (go_at_call 32; refine (strB w.heap.size _ _ HR.out.1 HSZ.out).mono ?_; rintro e w1 ⟨rfl, hb⟩; have HW := Lib.hid (HR.out.2.trans hb); clear hb)
      go_ret
      exact ⟨by rw [← HE.out]; rfl, HW.out⟩
end Go.Proofs.YtidgahnamdhflaaDoor
