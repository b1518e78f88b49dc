/- The document's Escape. -/
import Derived.Test.YthlpknmfpbhlhaaDoorLstB
namespace Go.Proofs.YthlpknmfpbhlhaaDoor
open Go.RowKit Go.Shelf Fld
set_option maxRecDepth 100000 in
set_option maxHeartbeats 8000000 in
theorem rescape_any (s : ByteArray) (w : World) (hs : s.size ≤ 1099511627776) :
    Calls Tryd.prog 7 #[.string s] w fun e w' => e = .returned (.string ⟨(escL s.data.toList).toArray⟩) ∧ w' = w := by
  go_enter Tryd.func7, Tryd.ntmps7
  go_wp2
  go_loop [3, 4] (fun o c => ∃ (k : Nat) (O : ByteArray), o = .string O ∧ c = .int .i64 (k : Int) ∧ k ≤ s.size ∧ Hid (O.data.toList = escL (s.data.toList.take k))) (fun _ c => s.size - (intOf c).toNat)
  case atStart => exact ⟨0, ⟨#[]⟩, rfl, rfl, by omega, Lib.hid rfl⟩
  case round =>
    obtain ⟨k, O, rfl, rfl, hk, HR⟩ := hrel
    have hO : O.size ≤ 2 * s.size := by have := escL_len (s.data.toList.take k); rw [← HR.out, List.length_take, len_eq, len_eq] at this; omega
    by_cases hks : k < s.size
    · have HX : Hid (escL (s.data.toList.take (k + 1)) = escL (s.data.toList.take k) ++ escB s[k]) := Lib.hid (escL_snoc s.data.toList k (by rw [len_eq]; exact hks))
      have hx := one_ext s k hks
      have q1 : (0 : Int) ≤ (k : Int) + 1 := by omega
      have q2 : ((k : Int) + 1).toNat = k + 1 := by omega
      have q3 : (k : Int) + 1 ≤ (s.size : Int) := by omega
      have q4 : (k : Int) ≤ (k : Int) + 1 := by omega
      rcases esc_cases s[k] with ⟨h, he⟩ | ⟨h, he⟩ | ⟨h, he⟩ | ⟨h, he⟩ | ⟨⟨n1, n2, n3, n4⟩, he⟩
      · rw [h] at hx
        have HE := Lib.hid he
        have hc : (⟨#[92]⟩ ++ ⟨#[92]⟩ : ByteArray) = ⟨#[92, 92]⟩ := rfl
        clear he h
        go_wp2
        go_round
        case rel => exact ⟨k + 1, _, rfl, by go_num, by omega, Lib.hid (by rw [HX.out, HE.out, ByteArray.data_append, Array.toList_append, HR.out])⟩
        case measure => simp [intOf]; omega
      · rw [h] at hx
        have HE := Lib.hid he
        have hc : (⟨#[92]⟩ ++ ⟨#[44]⟩ : ByteArray) = ⟨#[92, 44]⟩ := rfl
        clear he h
        go_wp2
        go_round
        case rel => exact ⟨k + 1, _, rfl, by go_num, by omega, Lib.hid (by rw [HX.out, HE.out, ByteArray.data_append, Array.toList_append, HR.out])⟩
        case measure => simp [intOf]; omega
      · rw [h] at hx
        have HE := Lib.hid he
        have hc : (⟨#[92]⟩ ++ ⟨#[59]⟩ : ByteArray) = ⟨#[92, 59]⟩ := rfl
        clear he h
        go_wp2
        go_round
        case rel => exact ⟨k + 1, _, rfl, by go_num, by omega, Lib.hid (by rw [HX.out, HE.out, ByteArray.data_append, Array.toList_append, HR.out])⟩
        case measure => simp [intOf]; omega
      · rw [h] at hx
        have HE := Lib.hid he
        clear he h
        go_wp2
        go_round
        case rel => exact ⟨k + 1, _, rfl, by go_num, by omega, Lib.hid (by rw [HX.out, HE.out, ByteArray.data_append, Array.toList_append, HR.out])⟩
        case measure => simp [intOf]; omega
      · have HE := Lib.hid he
        clear he
        obtain ⟨b, hb⟩ : ∃ b, s[k] = b := ⟨_, rfl⟩
        rw [hb] at hx n1 n2 n3 n4 HE
        have m1 : (b == 92) = false := by simpa using n1
        have m2 : (b == 44) = false := by simpa using n2
        have m3 : (b == 59) = false := by simpa using n3
        have m4 : (b == 10) = false := by simpa using n4
        rw [hb] at HX
        clear n1 n2 n3 n4 hb
        go_wp2
        go_round
        case rel => exact ⟨k + 1, _, rfl, by go_num, by omega, Lib.hid (by rw [HX.out, HE.out, ByteArray.data_append, Array.toList_append, HR.out])⟩
        case measure => simp [intOf]; omega
    · obtain rfl : k = s.size := by omega
      have HE : Hid (escL (s.data.toList.take s.size) = escL s.data.toList) := Lib.hid (by rw [List.take_of_length_le (by rw [len_eq]; exact Nat.le_refl _)])
      have HF := Lib.hid (str_eq HR.out)
      go_wp2
      go_ret
      exact ⟨by rw [← HE.out, ← HF.out]; rfl, rfl⟩
end Go.Proofs.YthlpknmfpbhlhaaDoor
