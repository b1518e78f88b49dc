/- text.Fold. -/
import Derived.Test.YtidgahnamdhflaaDoorFldB
import Derived.Test.YtidgahnamdhflaaDoorMore
namespace Go.Proofs.YtidgahnamdhflaaDoor
open Go.RowKit Go.Shelf Fld
theorem ext_to (s : ByteArray) (n : Nat) : (s.extract 0 n).data.toList = s.data.toList.take n := by
  simp
theorem ext_from (s : ByteArray) (n : Nat) : (s.extract n s.size).data.toList = s.data.toList.drop n := by
  rw [Lib.extract_data, List.take_of_length_le (by rw [List.length_drop, len_eq]; omega)]
theorem str_eq {s : ByteArray} {l : List UInt8} (h : s.data.toList = l) : s = ⟨l.toArray⟩ := by subst h; rfl
theorem not_empty {r : ByteArray} (h : r.data.toList ≠ []) : r.toList.isEmpty = false := by rw [ByteArray.toList_eq]; simpa using h
theorem crlf_list : (⟨#[13, 10]⟩ : ByteArray).data.toList = [13, 10] := rfl
set_option maxRecDepth 100000 in
set_option maxHeartbeats 4000000 in
theorem fold_any (s : ByteArray) (w : World) (hs : s.size ≤ 1099511627776) :
    Calls Tryd.prog 50 #[.string s] w fun e w' => e = .returned (.string ⟨(foldL s.data.toList).toArray⟩) ∧ Below w.heap.size w w' := by
  obtain ⟨n, hn⟩ : ∃ n, cutN s.data.toList 75 = n := ⟨_, rfl⟩
  have hbd := cutN_bd s.data.toList 75 (by omega)
  rw [hn, len_eq] at hbd
  obtain ⟨b1, b2, -⟩ := hbd
  have HT := Lib.hid (foldL_len s.data.toList)
  have HF : Hid ((s.extract 0 n ++ ⟨#[13, 10]⟩).data.toList ++ foldT (s.extract n s.size).data.toList = foldL s.data.toList) := by
    refine Lib.hid ?_
    rw [ByteArray.data_append, Array.toList_append, ext_to, ext_from, foldL, hn, crlf_list, List.append_assoc]
  have c1 : ∀ w0, Calls Tryd.prog 68 #[.string s, .int .i64 75] w0 fun e w' => e = .returned (.int .i64 (n : Int)) ∧ w' = w0 := fun w0 => hn ▸ cut_any s 75 75 rfl w0 hs (by omega) (by omega)
  have Z1 : Hid ((s.extract 0 n).size = n) := Lib.hid (by rw [ByteArray.size_extract]; omega)
  have C1 := Lib.hid c1
  clear hn c1
  go_enter Tryd.func50, Tryd.ntmps50
  go_wp2_with (first
    | (go_at_call 68; refine (C1.out _).mono ?_; rintro e w' ⟨rfl, rfl⟩)
    | (go_at_call 49; refine (writeS w.heap.size [] _ _ (Bld.new w) (by rw [ByteArray.size_append, Z1.out]; show 0 + (n + 2) ≤ _; omega) (by simp)).mono ?_; rintro e w1 ⟨rfl, hB, hb⟩; have HB := Lib.hid hB; have HW := Lib.hid ((Below.alloc (Below.refl _ _) (Nat.le_refl _) _).trans hb); clear hB hb))
  go_loopw [0] (fun t wr => ∃ (r : ByteArray) (acc : List UInt8), t = .string r ∧ r.size ≤ s.size ∧ Hid (Bld w.heap.size acc wr ∧ Below w.heap.size w wr ∧ acc ++ foldT r.data.toList = foldL s.data.toList)) (fun t _ => match t with | .string r => r.size | _ => 0)
  case atStart => exact ⟨_, _, rfl, by rw [ByteArray.size_extract]; omega, Lib.hid ⟨HB.out, HW.out, by simpa using HF.out⟩⟩
  case round =>
    obtain ⟨r, acc, rfl, hrs, HR⟩ := hrel
    have HSZ := Lib.hid (HR.out.2.1.size)
    by_cases hr : r.data.toList = []
    · have hr2 : r = ⟨#[]⟩ := str_eq hr
      have e : acc = foldL s.data.toList := by have := HR.out.2.2; rw [hr, foldT_nil, List.append_nil] at this; exact this
      have HE := Lib.hid e
      subst hr2
      clear e hr
      go_wp2_with (go_at_call 32; refine (strB w.heap.size acc _ HR.out.1 HSZ.out).mono ?_; rintro e w' ⟨rfl, hb⟩; have HB2 := Lib.hid hb; clear hb)
      go_ret
      exact ⟨by rw [← HE.out]; rfl, HR.out.2.1.trans HB2.out⟩
    · obtain ⟨k, hk⟩ : ∃ k, cutN r.data.toList 74 = k := ⟨_, rfl⟩
      have kbd := cutN_bd r.data.toList 74 (by omega)
      rw [hk, len_eq] at kbd
      obtain ⟨k1, k2, k3⟩ := kbd
      have k4 := k3 hr
      have Z2 : Hid ((r.extract 0 k).size = k) := Lib.hid (by rw [ByteArray.size_extract]; omega)
      have C2 : Hid (∀ w0, Calls Tryd.prog 68 #[.string r, .int .i64 74] w0 fun e w' => e = .returned (.int .i64 (k : Int)) ∧ w' = w0) := Lib.hid fun w0 => hk ▸ cut_any r 74 74 rfl w0 (by omega) (by omega) (by omega)
      have HL : Hid (acc.length ≤ 4 * s.size + 2) := Lib.hid (by have h1 := HT.out; rw [← HR.out.2.2, List.length_append, len_eq] at h1; omega)
      have HN : Hid (acc ++ (⟨#[32]⟩ ++ r.extract 0 k ++ ⟨#[13, 10]⟩ : ByteArray).data.toList ++ foldT (r.extract k r.size).data.toList = foldL s.data.toList) := by
        refine Lib.hid ?_
        rw [← HR.out.2.2, foldT_cons _ hr, hk, ByteArray.data_append, ByteArray.data_append, Array.toList_append, Array.toList_append, ext_to, ext_from, crlf_list]
        simp
      have hrb : r.toList.isEmpty = false := not_empty hr
      clear hk k3
      go_wp2_with (first
        | (go_at_call 68; refine (C2.out _).mono ?_; rintro e w' ⟨rfl, rfl⟩)
        | (go_at_call 49; refine (writeS w.heap.size acc _ _ HR.out.1 (by have := HL.out; rw [ByteArray.size_append, ByteArray.size_append, Z2.out]; show acc.length + (1 + k + 2) ≤ _; omega) HSZ.out).mono ?_; rintro e w1 ⟨rfl, hB, hb⟩; have HB2 := Lib.hid hB; have HW2 := Lib.hid (HR.out.2.1.trans hb); clear hB hb))
      go_roundw
      case rel => exact ⟨_, _, rfl, by rw [ByteArray.size_extract]; omega, Lib.hid ⟨HB2.out, HW2.out, HN.out⟩⟩
      case measure => simp [ByteArray.size_extract]; omega
end Go.Proofs.YtidgahnamdhflaaDoor
