/- SamePart's pieces: two lists of texts that were made. -/
import Derived.Test.YtidgahnamdhflaaDoorPsxL
namespace Go.Proofs.YtidgahnamdhflaaDoor
open Go.RowKit Go.Shelf Fld Prt Psx
theorem QStr.at {S : Nat → Prop} {w : World} {oa : Option Addr} {n cap : Nat} {L : List ByteArray} (h : QStr S w (.slice oa n cap) L) {k : Nat} (hk : k < L.length) : ∃ a, oa = some a ∧ S a.block ∧ w.cell? (a.add k) = some (.string (L.getD k ⟨#[]⟩)) := by
  obtain ⟨ob, c, e, h1, h2⟩ := h
  injection e with e1 e2 e3
  subst e1
  obtain ⟨a, rfl⟩ := h1 (by omega)
  obtain ⟨g1, g2⟩ := h2 a rfl (by omega)
  exact ⟨a, rfl, g1.1, g2 k hk⟩
theorem QStr.len {S : Nat → Prop} {w : World} {v : Value} {L : List ByteArray} (h : QStr S w v L) : ∃ oa cap, v = .slice oa L.length cap := by
  obtain ⟨oa, cap, h1, _⟩ := h; exact ⟨oa, cap, h1⟩
theorem QStr.call {S : Nat → Prop} {w w' : World} {v : Value} {L : List ByteArray} (h : QStr S w v L) (hS : ∀ b, S b → b < w.heap.size) (hb : Below w.heap.size w w') : QStr S w' v L :=
  h.keep fun b hs => ⟨hs, hb.block b (hS b hs)⟩
set_option maxRecDepth 100000 in
set_option maxHeartbeats 4000000 in
theorem listQ_same (v1 v2 : Value) (S1 S2 : Nat → Prop) (l : List ByteArray) (w : World) (hl : l.length ≤ 100000000) (h1 : QStr S1 w v1 l) (h2 : QStr S2 w v2 l) (s1 : ∀ b, S1 b → b < w.heap.size) (s2 : ∀ b, S2 b → b < w.heap.size) :
    Calls Tryd.prog 28 #[v1, v2] w fun e w' => e = .returned (.bool true) ∧ Below w.heap.size w w' := by
  obtain ⟨o1, c1, rfl⟩ := h1.len
  obtain ⟨o2, c2, rfl⟩ := h2.len
  obtain ⟨n, hn⟩ : ∃ x, l.length = x := ⟨_, rfl⟩
  rw [hn] at hl h1 h2 ⊢
  have H1 := Lib.hid h1
  have H2 := Lib.hid h2
  have HS1 := Lib.hid s1
  have HS2 := Lib.hid s2
  have HN := Lib.hid hn
  clear h1 h2 hn s1 s2
  have hnb : ((n : Int) != (n : Int)) = false := by simp
  go_enter Tryd.func28, Tryd.ntmps28
  go_wp2_with fail
  go_loopw [5] (fun c wr => ∃ k : Nat, c = .int .i64 (k : Int) ∧ k ≤ n ∧ Hid (Below w.heap.size w wr)) (fun c _ => n - (intOf c).toNat)
  case atStart => exact ⟨0, rfl, by omega, Lib.hid (Below.refl _ _)⟩
  case round =>
    obtain ⟨k, rfl, hk, HB⟩ := hrel
    by_cases hkn : k < n
    · obtain ⟨g1, rfl, -, p1⟩ := (H1.out.call HS1.out HB.out).at (show k < l.length by rw [HN.out]; exact hkn)
      obtain ⟨g2, rfl, -, p2⟩ := (H2.out.call HS2.out HB.out).at (show k < l.length by rw [HN.out]; exact hkn)
      obtain ⟨F, hF⟩ : ∃ x : ByteArray, l.getD k ⟨#[]⟩ = x := ⟨_, rfl⟩
      rw [hF] at p1 p2
      have r1 := cell_regrown p1
      have r2 := cell_regrown p2
      have k1 : (0 : Int) ≤ (k : Int) := by omega
      have k2 : (k : Int) < (n : Int) := by omega
      clear hF p1 p2
      go_wp2_with fail
      refine wp_region_below (by kernel_rfl) (by kernel_rfl) ?_
      repeat (go_big_quiet_step (fail))
      refine wpQuiet_nil ?_
      intro w1 hb1
      have HB1 := Lib.hid (thenB HB.out hb1)
      clear hb1 r1 r2
      go_wp2_with fail
      go_roundw
      case rel => exact ⟨k + 1, by go_num, by omega, HB1⟩
      case measure => simp [intOf]; omega
    · go_wp2_with fail
      go_ret
      exact ⟨rfl, HB.out⟩
end Go.Proofs.YtidgahnamdhflaaDoor
