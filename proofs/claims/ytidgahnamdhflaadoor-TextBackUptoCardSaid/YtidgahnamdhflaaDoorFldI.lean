/- Two lists of texts held against each other; the law TextFolds. -/
import Derived.Test.YtidgahnamdhflaaDoorFldE
import Derived.Test.YtidgahnamdhflaaDoorFldH
import Derived.Test.YtidgahnamdhflaaDoorQTail
namespace Go.Proofs.YtidgahnamdhflaaDoor
open Go.RowKit Go.Shelf Fld
set_option maxRecDepth 100000 in
set_option maxHeartbeats 4000000 in
theorem listStr_same (v1 v2 : Value) (b1 b2 : Nat) (l : List (List UInt8)) (w : World) (hl : l.length ≤ 100000000) (h1 : StrL w b1 v1 l) (h2 : StrL w b2 v2 l) :
    Calls Tryd.prog 28 #[v1, v2] w fun e w' => e = .returned (.bool true) ∧ Below w.heap.size w w' := by
  obtain ⟨o1, c1, rfl⟩ := h1.form
  obtain ⟨o2, c2, rfl⟩ := h2.form
  obtain ⟨n, hn⟩ : ∃ x, l.length = x := ⟨_, rfl⟩
  rw [hn] at hl h1 h2 ⊢
  have H1 := Lib.hid h1
  have H2 := Lib.hid h2
  have HN := Lib.hid hn
  clear h1 h2 hn
  have hnb : ((n : Int) != (n : Int)) = false := by simp
  go_enter Tryd.func28, Tryd.ntmps28
  go_wp2_with fail
  go_loopw [5] (fun c wr => ∃ k : Nat, c = .int .i64 (k : Int) ∧ k ≤ n ∧ Hid (Below w.heap.size w wr)) (fun c _ => n - (intOf c).toNat)
  case atStart => exact ⟨0, rfl, by omega, Lib.hid (Below.refl _ _)⟩
  case round =>
    obtain ⟨k, rfl, hk, HB⟩ := hrel
    by_cases hkn : k < n
    · obtain ⟨g1, rfl, -, -, p1, -⟩ := (H1.out.call HB.out).at (show k < l.length by rw [HN.out]; exact hkn)
      obtain ⟨g2, rfl, -, -, p2, -⟩ := (H2.out.call HB.out).at (show k < l.length by rw [HN.out]; exact hkn)
      obtain ⟨F, hF⟩ : ∃ x : ByteArray, (⟨(l.getD k []).toArray⟩ : ByteArray) = x := ⟨_, rfl⟩
      rw [hF] at p1 p2
      have r1 := cell_regrown p1
      have r2 := cell_regrown p2
      have k1 : (0 : Int) ≤ (k : Int) := by omega
      have k2 : (k : Int) < (n : Int) := by omega
      clear hF p1 p2
      go_wp2_with fail
      refine wp_region_below (by kernel_rfl) (by kernel_rfl) ?_
      repeat (go_big_quiet_step (fail))
      refine wpQuiet_nil ?_
      intro w1 hb1
      have HB1 := Lib.hid (thenB HB.out hb1)
      clear hb1 r1 r2
      go_wp2_with fail
      go_roundw
      case rel => exact ⟨k + 1, by go_num, by omega, HB1⟩
      case measure => simp [intOf]; omega
    · go_wp2_with fail
      go_ret
      exact ⟨rfl, HB.out⟩
theorem unfL_len (s : ByteArray) : (unfL s.data.toList).length ≤ s.size + 1 := by
  have h1 := (foldl_flat (linesOf s.data.toList) []).2
  have h2 := (linesOf_flat s.data.toList).2
  rw [len_eq] at h2
  unfold unfL
  have h4 : ([] : List (List UInt8)).length = 0 := rfl
  omega
end Go.Proofs.YtidgahnamdhflaaDoor
