/- The library's Clone, Grow, Concat over spans. -/
import Derived.Test.YtbmndenopgkpoaaDoorMomD
import Derived.Lib.SliceRun
import Derived.Deep.LoopGhost
namespace Go.Proofs.YtbmndenopgkpoaaDoor
open Go.RowKit
set_option maxRecDepth 100000 in
set_option maxHeartbeats 4000000 in
theorem clone_any (v : Value) (l : List Iv) (w : World) (hl : l.length ≤ 1000000000) (h : IvS w v l) :
    Calls Tryd.prog 37 #[v] w fun e w' => ∃ v', e = .returned v' ∧ IvS w' v' l ∧ Below w.heap.size w w' := by
  obtain ⟨ob, cap, rfl, h1, h2⟩ := id h
  obtain ⟨n, hn⟩ : ∃ n, l.length = n := ⟨_, rfl⟩
  have HN := Lib.hid hn
  rw [hn] at hl ⊢
  cases ob with
  | none =>
    obtain ⟨rfl, rfl⟩ := h1 rfl
    obtain rfl : n = 0 := hn.symm
    have q22 : ∀ (w : World) (a : Option Addr) (n c n' c' : Nat), (binOp .eql 29 (.slice a n c) (.slice none n' c')).run Tryd.prog w = .ok (.bool a.isNone) w := fun w a n c n' c' => Lib.run_eql_slice_nil w _ _ a n c n' c' Tryd.underlying29
    clear h h1 h2 hn
    go_enter Tryd.func37, Tryd.ntmps37
    go_wp2_with fail
    go_ret
    exact ⟨_, rfl, IvS.nil w, Below.refl _ _⟩
  | some a =>
    have H := Lib.hid h
    rw [hn] at H
    obtain ⟨i0, hi0, hz0, hz1, hz2⟩ := info_parts span_info2
    have q22 : ∀ (w : World) (a : Option Addr) (n c n' c' : Nat), (binOp .eql 29 (.slice a n c) (.slice none n' c')).run Tryd.prog w = .ok (.bool a.isNone) w := fun w a n c n' c' => Lib.run_eql_slice_nil w _ _ a n c n' c' Tryd.underlying29
    clear h h1 h2 hn
    go_enter Tryd.func37, Tryd.ntmps37
    go_wp2_with (at_builtin; refine wpList_append_anyM rfl (.tmp 5) (.tmp 6) 29 rfl w.heap.size 55 i0 (.agg #[.int .i64 0, .int .i64 0]) 2 16 Tryd.underlying29 hi0 hz0 hz1 hz2 rfl (by decide) (.slice (some ⟨w.heap.size, 0, none⟩) 0 0) 0 [] rfl (own_empty w w.heap.size 55 2 (Nat.le_refl _)) (.slice (some a) n cap) n (ivV l) rfl (by have h9 := (H.out.call (Below.alloc (Below.refl _ _) (Nat.le_refl _) (.cells #[] 55))).news; rw [HN.out] at h9; exact h9) (by unfold maxLen; omega) (by omega) (by simp) ?_; intro v3 w3 hown hgrow)
    have HO := Lib.hid hown
    have HB := Lib.hid (show Below w.heap.size w w3 from (Below.alloc (Below.refl _ _) (Nat.le_refl _) (.cells #[] 55)).grown hgrow (by simp) (fun k hk => by simp [Value.ownBlock] at hk; omega))
    clear hown hgrow
    go_wp2_with fail
    go_ret
    refine ⟨_, rfl, IvS.own (b := w.heap.size) ?_, HB.out⟩
    have := HO.out
    rw [HN.out]
    simpa using this
end Go.Proofs.YtbmndenopgkpoaaDoor
