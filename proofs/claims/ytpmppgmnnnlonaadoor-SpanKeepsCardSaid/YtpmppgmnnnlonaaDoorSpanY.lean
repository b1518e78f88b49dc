/- Lists held against each other; the plain package's calls on nets; the law SpanNets. -/
import Derived.Test.YtpmppgmnnnlonaaDoorSpanX
namespace Go.Proofs.YtpmppgmnnnlonaaDoor
open Go.RowKit
set_option maxRecDepth 100000 in
set_option maxHeartbeats 2000000 in
theorem list_same (B D n c d : Nat) (f : Nat → Nat) (w : World) (hn : n ≤ 1000000) (h1 : ∀ k, k < n → w.cell? ⟨B, k, none⟩ = some (.int .i64 (f k : Int))) (h2 : ∀ k, k < n → w.cell? ⟨D, k, none⟩ = some (.int .i64 (f k : Int))) : Calls Tryd.prog 40 #[.slice (some ⟨B, 0, none⟩) n c, .slice (some ⟨D, 0, none⟩) n d] w fun e w' => e = .returned (.bool true) ∧ Below w.heap.size w w' := by
  have H1 := Lib.hid h1
  have H2 := Lib.hid h2
  clear h1 h2
  have hnb : ((n : Int) != (n : Int)) = false := by simp
  go_enter Tryd.func40, Tryd.ntmps40
  go_wp2_with fail
  go_loopw [5] (fun c wr => ∃ k : Nat, c = .int .i64 (k : Int) ∧ k ≤ n ∧ Hid (Below w.heap.size w wr)) (fun c _ => n - (intOf c).toNat)
  case atStart => exact ⟨0, rfl, by omega, Lib.hid (Below.refl _ _)⟩
  case round =>
    obtain ⟨k, rfl, hk, HB⟩ := hrel
    by_cases hlt : k < n
    · have k1 : (0 : Int) ≤ (k : Int) := by omega
      have k2 : (k : Int) < (n : Int) := by omega
      have q1 := H1.out k hlt
      have q2 := H2.out k hlt
      have p1 : wr.cell? ⟨B, k, none⟩ = some (.int .i64 (f k : Int)) := (HB.out.cell (p := ⟨B, k, none⟩) (World.block_lt_of_cell? _ _ q1)).trans q1
      have p2 : wr.cell? ⟨D, k, none⟩ = some (.int .i64 (f k : Int)) := (HB.out.cell (p := ⟨D, k, none⟩) (World.block_lt_of_cell? _ _ q2)).trans q2
      obtain ⟨F, hF⟩ : ∃ F : Int, (f k : Int) = F := ⟨_, rfl⟩
      rw [hF] at p1 p2
      clear q1 q2 hF
      go_wp2_with fail
      go_quiet (fail)
      go_wp2_with fail
      go_roundw
      case rel => exact ⟨k + 1, by go_num, by omega, Lib.hid (below_drewN HB.out _)⟩
      case measure => simp [intOf]; omega
    · go_wp2_with fail
      go_ret
      exact ⟨rfl, HB.out⟩
set_option maxRecDepth 100000 in
set_option maxHeartbeats 2000000 in
theorem lists_nil (w : World) : Calls Tryd.prog 23 #[.slice none 0 0, .slice none 0 0] w fun e w' => e = .returned (.bool true) ∧ Below w.heap.size w w' := by
  go_enter Tryd.func23, Tryd.ntmps23
  go_wp2_with fail
  refine wp_loop_rounds 1 ?_
  rw [rounds_succ]
  go_wp2_with fail
  go_ret
  exact ⟨rfl, Below.refl _ _⟩
set_option maxRecDepth 100000 in
set_option maxHeartbeats 2000000 in
theorem lists_same (b b' O O' n c c' : Nat) (R R' cp cp' : Nat → Nat) (X : Nat → Nat → Nat) (w : World) (hn : n ≤ 1000000) (hm1 : MatR w b O n n R cp X) (hm2 : MatR w b' O' n n R' cp' X) : Calls Tryd.prog 23 #[.slice (some ⟨O, 0, none⟩) n c, .slice (some ⟨O', 0, none⟩) n c'] w fun e w' => e = .returned (.bool true) ∧ Below w.heap.size w w' := by
  have H1 := Lib.hid hm1
  have H2 := Lib.hid hm2
  clear hm1 hm2
  have hnb : ((n : Int) != (n : Int)) = false := by simp
  go_enter Tryd.func23, Tryd.ntmps23
  go_wp2_with fail
  go_loopw [5] (fun c wr => ∃ k : Nat, c = .int .i64 (k : Int) ∧ k ≤ n ∧ Hid (Below w.heap.size w wr)) (fun c _ => n - (intOf c).toNat)
  case atStart => exact ⟨0, rfl, by omega, Lib.hid (Below.refl _ _)⟩
  case round =>
    obtain ⟨k, rfl, hk, HB⟩ := hrel
    by_cases hlt : k < n
    · have k1 : (0 : Int) ≤ (k : Int) := by omega
      have k2 : (k : Int) < (n : Int) := by omega
      have HM1 := Lib.hid (H1.out.call HB.out)
      have HM2 := Lib.hid (H2.out.call HB.out)
      have r1 := cell_regrown (HM1.out.2.1 k hlt).1
      have r2 := cell_regrown (HM2.out.2.1 k hlt).1
      go_wp2_with fail
      refine wp_region_below (by kernel_rfl) (by kernel_rfl) ?_
      repeat (go_big_quiet_step ((go_at_call 40; exact Calls.regrown_of (list_same _ _ _ _ _ (X k) _ hn (fun j hj => (((HM1.out.call (below_regrown _ _ _)).2.1 k hlt).2.2.2.2 j hj).1) (fun j hj => (((HM2.out.call (below_regrown _ _ _)).2.1 k hlt).2.2.2.2 j hj).1)))))
      refine wpQuiet_nil ?_
      intro w1 hb1
      have HB1 := Lib.hid (thenB HB.out hb1)
      clear hb1 r1 r2
      go_wp2_with fail
      go_roundw
      case rel => exact ⟨k + 1, by go_num, by omega, HB1⟩
      case measure => simp [intOf]; omega
    · go_wp2_with fail
      go_ret
      exact ⟨rfl, HB.out⟩
/-- What a closure answers, of a net that may be or not. -/
def CRes (Top : (Nat → Nat → Nat) → Prop) (w : World) (n : Nat) (L : Nat → Nat) (z : Nat → Nat → Int) (v : Value) (x : Int) (w' : World) : Prop :=
  (netE n L z ≠ 0 ∧ v = .slice none 0 0 ∧ x = netE n L z) ∨ (netE n L z = 0 ∧ ∃ X, Top X ∧ ((∃ i k, i < n ∧ k < n ∧ X i k = 0) ∧ v = .slice none 0 0 ∧ x = 12 ∨ (∀ i k, i < n → k < n → X i k ≠ 0) ∧ x = 0 ∧ ∃ O c R cp, v = .slice (some ⟨O, 0, none⟩) n c ∧ MatR w' w.heap.size O n n R cp X))
theorem CRes.call {Top : (Nat → Nat → Nat) → Prop} {w : World} {n : Nat} {L : Nat → Nat} {z : Nat → Nat → Int} {v : Value} {x : Int} {w' w'' : World} (h : CRes Top w n L z v x w') (hb : Below w'.heap.size w' w'') : CRes Top w n L z v x w'' := by
  rcases h with h | ⟨h0, X, hX, h | ⟨h1, h2, O, c, R, cp, h3, h4⟩⟩
  · exact .inl h
  · exact .inr ⟨h0, X, hX, .inl h⟩
  · exact .inr ⟨h0, X, hX, .inr ⟨h1, h2, O, c, R, cp, h3, h4.call hb⟩⟩
def ClP (Top : (Nat → Nat → Nat) → Prop) (n : Nat) (L : Nat → Nat) (z : Nat → Nat → Int) (w : World) (e : Ending) (w' : World) : Prop := ∃ v x, e = .returned (.tuple #[v, errV x]) ∧ CRes Top w n L z v x w' ∧ Below w.heap.size w w'
def ClD (Top : (Nat → Nat → Nat) → Prop) (n : Nat) (L : Nat → Nat) (z : Nat → Nat → Int) (w : World) (e : Ending) (w' : World) : Prop := ∃ v x, e = .returned (.tuple #[v, .int .i64 x]) ∧ CRes Top w n L z v x w' ∧ Below w.heap.size w w'
set_option maxRecDepth 100000 in
set_option maxHeartbeats 2000000 in
theorem close_all (oa : Option Addr) (n cap : Nat) (A : Nat → Option Addr) (L C : Nat → Nat) (z : Nat → Nat → Int) (w : World) (hn : n ≤ 1000000) (hL : ∀ i, i < n → L i ≤ 9223372036854775807) (hR : NetR w oa n A L C z) : Calls Tryd.prog 37 #[.slice oa n cap] w (ClP (TopP n fun i k => (z i k).toNat) n L z w) := by
  by_cases hE : netE n L z = 0
  · refine (close_any oa n cap A L C z w hn hL hE hR).mono ?_
    rintro e w' ⟨X, hX, h, hb⟩
    rcases h with ⟨h1, rfl⟩ | ⟨h1, O, R, cp, rfl, h2⟩
    · exact ⟨_, 12, rfl, .inr ⟨hE, X, hX, .inl ⟨h1, rfl, rfl⟩⟩, hb⟩
    · exact ⟨_, 0, rfl, .inr ⟨hE, X, hX, .inr ⟨h1, rfl, O, n, R, cp, rfl, h2⟩⟩, hb⟩
  · have HV := Lib.hid (netE_pos hE)
    have HE := Lib.hid hE
    have HR := Lib.hid hR
    have HL := Lib.hid hL
    clear hE hR hL
    go_enter Tryd.func37, Tryd.ntmps37
    go_wp2_with fail
    refine (check_any oa n cap A L C z _ hn HL.out HR.out).mono ?_; rintro e w' ⟨rfl, hw⟩; obtain rfl := hw.symm; clear hw
    rw [HV.out]
    go_wp2_with fail
    go_ret2
    exact ⟨_, netE n L z, by rw [HV.out]; rfl, .inl ⟨HE.out, rfl, rfl⟩, Below.refl _ _⟩
set_option maxRecDepth 100000 in
set_option maxHeartbeats 2000000 in
theorem closeNet_all (oa : Option Addr) (n cap : Nat) (A : Nat → Option Addr) (L C : Nat → Nat) (z : Nat → Nat → Int) (w : World) (hn : n ≤ 1000000) (hL : ∀ i, i < n → L i ≤ 9223372036854775807) (hR : NetR w oa n A L C z) : Calls Tryd.prog 18 #[.slice oa n cap] w (ClD (TopD n fun i k => (z i k).toNat) n L z w) := by
  by_cases hE : netE n L z = 0
  · refine (closeNet_any oa n cap A L C z w hn hL hE hR).mono ?_
    rintro e w' ⟨X, hX, h, hb⟩
    rcases h with ⟨h1, rfl⟩ | ⟨h1, O, c, R, cp, rfl, h2⟩
    · exact ⟨_, 12, rfl, .inr ⟨hE, X, hX, .inl ⟨h1, rfl, rfl⟩⟩, hb⟩
    · exact ⟨_, 0, rfl, .inr ⟨hE, X, hX, .inr ⟨h1, rfl, O, c, R, cp, rfl, h2⟩⟩, hb⟩
  · have hv : (netE n L z != 0) = true := by simpa using hE
    have HE := Lib.hid hE
    have HR := Lib.hid hR
    have HL := Lib.hid hL
    clear hE hR hL
    go_enter Tryd.func18, Tryd.ntmps18
    go_wp2_with fail
    refine (netCheck_any oa n cap A L C z _ hn HL.out HR.out).mono ?_; rintro e w' ⟨rfl, hw⟩; obtain rfl := hw.symm; clear hw
    go_wp2_with fail
    go_ret2
    exact ⟨_, netE n L z, rfl, .inl ⟨HE.out, rfl, rfl⟩, Below.refl _ _⟩
set_option maxHeartbeats 2000000 in
theorem plainClose_all (oa : Option Addr) (n cap : Nat) (A : Nat → Option Addr) (L C : Nat → Nat) (z : Nat → Nat → Int) (w : World) (hT : ErrT w) (hn : n ≤ 1000000) (hL : ∀ i, i < n → L i ≤ 9223372036854775807) (hR : NetR w oa n A L C z) : Calls Tryd.prog 17 #[.slice oa n cap] w (ClD (TopP n fun i k => (z i k).toNat) n L z w) := by
  have HT := Lib.hid hT
  have HR := Lib.hid hR
  have HL := Lib.hid hL
  clear hT hR hL
  go_enter Tryd.func17, Tryd.ntmps17
  go_wp2_with fail
  refine (close_all oa n cap A L C z _ hn HL.out HR.out).mono ?_; rintro e w1 ⟨v, x, rfl, hC, hb1⟩
  have HC := Lib.hid hC
  have HT1 := Lib.hid (HT.out.call hb1)
  have HB1 := Lib.hid hb1
  clear hC hb1
  go_wp2_with fail
  refine (tell_any _ _ HT1.out).mono ?_; rintro e w2 ⟨rfl, hb2⟩
  have HC2 := Lib.hid (HC.out.call hb2)
  have HB2 := Lib.hid (thenB HB1.out hb2); clear hb2
  go_wp2_with fail
  go_ret2
  exact ⟨v, x, rfl, HC2.out, HB2.out⟩
set_option maxHeartbeats 2000000 in
theorem plainHolds_any (oa : Option Addr) (n cap : Nat) (A : Nat → Option Addr) (L C : Nat → Nat) (z : Nat → Nat → Int) (ob : Option Addr) (m cap2 : Nat) (x y : Nat → Int) (w : World) (hT : ErrT w) (hn : n ≤ 1000000) (hm : m ≤ 1000000) (hL : ∀ i, i < n → L i ≤ 9223372036854775807) (hR : NetR w oa n A L C z) (hS : SpanR w ob m x y) : Calls Tryd.prog 19 #[.slice oa n cap, .slice ob m cap2] w fun e w' => e = .returned (.tuple #[.bool (holdB n L z m x y), .int .i64 (holdE n L z m x y)]) ∧ Below w.heap.size w w' := by
  have HT := Lib.hid hT
  have HR := Lib.hid hR
  have HL := Lib.hid hL
  have HS := Lib.hid hS
  clear hT hR hL hS
  go_enter Tryd.func19, Tryd.ntmps19
  go_wp2_with fail
  refine (holds_any oa n cap A L C z ob m cap2 x y _ hn hm HL.out HR.out HS.out).mono ?_; rintro e w1 ⟨rfl, hb1⟩
  have HT1 := Lib.hid (HT.out.call hb1)
  have HB1 := Lib.hid hb1
  clear hb1
  go_wp2_with fail
  refine (tell_any _ _ HT1.out).mono ?_; rintro e w2 ⟨rfl, hb2⟩
  have HB2 := Lib.hid (thenB HB1.out hb2); clear hb2
  go_wp2_with fail
  go_ret2
  exact ⟨rfl, HB2.out⟩
set_option maxHeartbeats 2000000 in
theorem plainCheck_any (oa : Option Addr) (n cap : Nat) (A : Nat → Option Addr) (L C : Nat → Nat) (z : Nat → Nat → Int) (w : World) (hT : ErrT w) (hn : n ≤ 1000000) (hL : ∀ i, i < n → L i ≤ 9223372036854775807) (hR : NetR w oa n A L C z) : Calls Tryd.prog 21 #[.slice oa n cap] w fun e w' => e = .returned (.int .i64 (netE n L z)) ∧ Below w.heap.size w w' := by
  have HT := Lib.hid hT
  have HR := Lib.hid hR
  have HL := Lib.hid hL
  clear hT hR hL
  go_enter Tryd.func21, Tryd.ntmps21
  go_wp2_with fail
  refine (check_any oa n cap A L C z _ hn HL.out HR.out).mono ?_; rintro e w' ⟨rfl, hw⟩; obtain rfl := hw.symm; clear hw
  go_wp2_with fail
  refine (tell_any _ _ HT.out).mono ?_; rintro e w2 ⟨rfl, hb2⟩
  have HB2 := Lib.hid hb2; clear hb2
  go_wp2_with fail
  go_ret
  exact ⟨rfl, HB2.out⟩
end Go.Proofs.YtpmppgmnnnlonaaDoor
