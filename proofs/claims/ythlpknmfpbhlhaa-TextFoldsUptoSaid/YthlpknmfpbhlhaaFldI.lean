/- Two lists of texts held against each other; the law TextFolds. -/
import Derived.Test.YthlpknmfpbhlhaaFldE
import Derived.Test.YthlpknmfpbhlhaaFldH
import Derived.Test.YthlpknmfpbhlhaaQTail
namespace Go.Proofs.Ythlpknmfpbhlhaa
open Go.RowKit Go.Shelf Fld
set_option maxRecDepth 100000 in
set_option maxHeartbeats 4000000 in
theorem listStr_same (v1 v2 : Value) (b1 b2 : Nat) (l : List (List UInt8)) (w : World) (hl : l.length ≤ 100000000) (h1 : StrL w b1 v1 l) (h2 : StrL w b2 v2 l) :
    Calls Try.prog 6 #[v1, v2] w fun e w' => e = .returned (.bool true) ∧ Below w.heap.size w w' := by
  obtain ⟨o1, c1, rfl⟩ := h1.form
  obtain ⟨o2, c2, rfl⟩ := h2.form
  obtain ⟨n, hn⟩ : ∃ x, l.length = x := ⟨_, rfl⟩
  rw [hn] at hl h1 h2 ⊢
  have H1 := Lib.hid h1
  have H2 := Lib.hid h2
  have HN := Lib.hid hn
  clear h1 h2 hn
  have hnb : ((n : Int) != (n : Int)) = false := by simp
  go_enter Try.func6, Try.ntmps6
  go_wp2_with fail
  go_loopw [5] (fun c wr => ∃ k : Nat, c = .int .i64 (k : Int) ∧ k ≤ n ∧ Hid (Below w.heap.size w wr)) (fun c _ => n - (intOf c).toNat)
  case atStart => exact ⟨0, rfl, by omega, Lib.hid (Below.refl _ _)⟩
  case round =>
    obtain ⟨k, rfl, hk, HB⟩ := hrel
    by_cases hkn : k < n
    · obtain ⟨g1, rfl, -, -, p1, -⟩ := (H1.out.call HB.out).at (show k < l.length by rw [HN.out]; exact hkn)
      obtain ⟨g2, rfl, -, -, p2, -⟩ := (H2.out.call HB.out).at (show k < l.length by rw [HN.out]; exact hkn)
      obtain ⟨F, hF⟩ : ∃ x : ByteArray, (⟨(l.getD k []).toArray⟩ : ByteArray) = x := ⟨_, rfl⟩
      rw [hF] at p1 p2
      have r1 := cell_regrown p1
      have r2 := cell_regrown p2
      have k1 : (0 : Int) ≤ (k : Int) := by omega
      have k2 : (k : Int) < (n : Int) := by omega
      clear hF p1 p2
      go_wp2_with fail
      refine wp_region_below (by kernel_rfl) (by kernel_rfl) ?_
      repeat (go_big_quiet_step (fail))
      refine wpQuiet_nil ?_
      intro w1 hb1
      have HB1 := Lib.hid (thenB HB.out hb1)
      clear hb1 r1 r2
      go_wp2_with fail
      go_roundw
      case rel => exact ⟨k + 1, by go_num, by omega, HB1⟩
      case measure => simp [intOf]; omega
    · go_wp2_with fail
      go_ret
      exact ⟨rfl, HB.out⟩
theorem plainFold_any (s : ByteArray) (w : World) (hs : s.size ≤ 1099511627776) :
    Calls Try.prog 4 #[.string s] w fun e w' => e = .returned (.string ⟨(foldL s.data.toList).toArray⟩) ∧ Below w.heap.size w w' := by
  have c := fold_any s w hs
  generalize (⟨(foldL s.data.toList).toArray⟩ : ByteArray) = R at c ⊢
  go_enter Try.func4, Try.ntmps4
  go_wp2_with (go_at_call 9; refine c.mono ?_; rintro e w' ⟨rfl, hb⟩)
  go_ret
  exact ⟨rfl, hb⟩
theorem plainUnfold_any (s : ByteArray) (w : World) (hs : s.size ≤ 1048576) :
    Calls Try.prog 7 #[.string s] w (TxtR (unfL s.data.toList) w) := by
  have c := unfold_any s w hs
  go_enter Try.func7, Try.ntmps7
  go_wp2_with (go_at_call 11; refine c.mono ?_; rintro e w' ⟨v, rfl, h, hb⟩)
  go_ret
  exact ⟨_, rfl, h, hb⟩
theorem unfL_len (s : ByteArray) : (unfL s.data.toList).length ≤ s.size + 1 := by
  have h1 := (foldl_flat (linesOf s.data.toList) []).2
  have h2 := (linesOf_flat s.data.toList).2
  rw [len_eq] at h2
  unfold unfL
  have h4 : ([] : List (List UInt8)).length = 0 := rfl
  omega
set_option maxRecDepth 100000 in
set_option maxHeartbeats 4000000 in
theorem textFolds_walk (s t : ByteArray) (w : World) (hs : s.size ≤ 1048576) (ht : t.size ≤ 1048576) :
    Calls Try.prog 3 #[.string s, .string t] w fun e w' => e = .returned (.bool true) ∧ Below w.heap.size w w' := by
  have HL := Lib.hid (unfL_len t)
  obtain ⟨R, hR⟩ : ∃ R : ByteArray, (⟨(foldL s.data.toList).toArray⟩ : ByteArray) = R := ⟨_, rfl⟩
  have C1 : Hid (∀ w0, Calls Try.prog 4 #[.string s] w0 fun e w' => e = .returned (.string R) ∧ Below w0.heap.size w0 w') := Lib.hid fun w0 => hR ▸ plainFold_any s w0 (by omega)
  have C2 : Hid (∀ w0, Calls Try.prog 5 #[.string s] w0 fun e w' => e = .returned (.string R) ∧ w0 = w') := Lib.hid fun w0 => (rfold_any s w0 (by omega)).mono fun e w' h => ⟨hR ▸ h.1, h.2.symm⟩
  clear hR
  obtain ⟨U, hU⟩ : ∃ U, unfL t.data.toList = U := ⟨_, rfl⟩
  rw [hU] at HL
  have C3 : Hid (∀ w0, Calls Try.prog 7 #[.string t] w0 (TxtR U w0)) := Lib.hid fun w0 => hU ▸ plainUnfold_any t w0 ht
  have C4 : Hid (∀ w0, Calls Try.prog 8 #[.string t] w0 (TxtR U w0)) := Lib.hid fun w0 => hU ▸ runfold_any t w0 ht
  clear hU
  go_enter Try.func3, Try.ntmps3
  go_wp2_with (first
    | (go_at_call 4; refine (C1.out _).mono ?_; rintro e w1 ⟨rfl, hb1⟩; have HB1 := Lib.hid hb1; clear hb1)
    | (go_at_call 5; refine (C2.out _).mono ?_; rintro e w' ⟨rfl, rfl⟩)
    | (go_at_call 7; refine (C3.out _).mono ?_; rintro e w2 ⟨v2, rfl, h2, hb2⟩; have H2 := Lib.hid h2; have HB2 := Lib.hid (thenB HB1.out hb2); clear h2 hb2)
    | (go_at_call 8; refine (C4.out _).mono ?_; rintro e w3 ⟨v3, rfl, h3, hb3⟩; have H3 := Lib.hid h3; have HB3 := Lib.hid (thenB HB2.out hb3); have H4 := Lib.hid (H2.out.call hb3); clear h3 hb3)
    | (go_at_call 6; refine (listStr_same _ _ _ _ _ _ (by have := HL.out; omega) H4.out H3.out).mono ?_; rintro e w4 ⟨rfl, hb4⟩; have HB4 := Lib.hid (thenB HB3.out hb4); clear hb4))
  go_ret
  exact ⟨rfl, HB4.out⟩
end Go.Proofs.Ythlpknmfpbhlhaa
