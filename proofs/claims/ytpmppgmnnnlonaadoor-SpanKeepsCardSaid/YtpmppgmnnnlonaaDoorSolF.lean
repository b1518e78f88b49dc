/- The law SpanSolves. -/
import Derived.Test.YtpmppgmnnnlonaaDoorSolE
import Derived.Test.YtpmppgmnnnlonaaDoorSpanZ
namespace Go.Proofs.YtpmppgmnnnlonaaDoor
open Go.RowKit
def SvD (n : Nat) (L : Nat → Nat) (z : Nat → Nat → Int) (w : World) (e : Ending) (w' : World) : Prop := ∃ v x, e = .returned (.tuple #[v, .int .i64 x]) ∧ SRes (TopD n fun i k => (z i k).toNat) (fun _ => accD fun i k => (z i k).toNat) 0 n L z v x w' ∧ Below w.heap.size w w'
set_option maxRecDepth 100000 in
set_option maxHeartbeats 4000000 in
theorem rSolve_any (oa : Option Addr) (n cap : Nat) (A : Nat → Option Addr) (L C : Nat → Nat) (z : Nat → Nat → Int) (w : World) (hn : n ≤ 1000) (hL : ∀ i, i < n → L i ≤ 9223372036854775807) (hR : NetR w oa n A L C z) : Calls Tryd.prog 25 #[.slice oa n cap] w (SvD n L z w) := by
  have hn2 : n ≤ 1000000 := by omega
  have HR := Lib.hid hR
  have HL := Lib.hid hL
  clear hR hL
  go_enter Tryd.func25, Tryd.ntmps25
  go_wp2_with fail
  refine (closeNet_all oa n cap A L C z _ hn2 HL.out HR.out).mono ?_; rintro e w1 ⟨v, x, rfl, hC, hb⟩
  have HB1 := Lib.hid hb
  clear hb
  rcases hC with ⟨h0, rfl, rfl⟩ | ⟨h0, X, hX, ⟨h1, rfl, rfl⟩ | ⟨h1, rfl, O, c, R, cp, rfl, hm⟩⟩
  · have hv : (netE n L z != 0) = true := by simpa using h0
    have HE := Lib.hid h0
    clear h0
    go_wp2_with fail
    go_ret2
    exact ⟨_, netE n L z, rfl, .inl ⟨HE.out, rfl, rfl⟩, HB1.out⟩
  · have HQ := Lib.hid (And.intro h0 (And.intro hX h1))
    clear h0 hX h1
    go_wp2_with fail
    go_ret2
    exact ⟨_, 12, rfl, .inr ⟨HQ.out.1, X, HQ.out.2.1, .inl ⟨HQ.out.2.2, rfl, rfl⟩⟩, HB1.out⟩
  · have HQ := Lib.hid (And.intro h0 (And.intro hX h1))
    clear h0 hX h1 hm
    go_wp2_with fail
    refine (rsolve_any oa n cap A L C z hn HQ.out.1 n [] _ _ (by simp) (fun p hp => absurd hp (by simp)) (fun _ => rfl) (HR.out.call HB1.out) (SpanL.nil _ _)).mono ?_
    rintro e w6 ⟨r, hr, hb6, (⟨rfl, rfl⟩ | ⟨t, v6, rfl, rfl, hs6⟩)⟩
    · have HB6 := Lib.hid (thenB HB1.out hb6)
      have HRR := Lib.hid hr
      clear hb6 hr
      go_wp2_with fail
      go_ret2
      exact ⟨_, 12, rfl, .inr ⟨HQ.out.1, X, HQ.out.2.1, .inr ⟨HQ.out.2.2, none, HRR.out, .inl ⟨rfl, rfl, rfl⟩⟩⟩, HB6.out⟩
    · have HB6 := Lib.hid (thenB HB1.out hb6)
      have HRR := Lib.hid hr
      have HS6 := Lib.hid hs6
      clear hb6 hr hs6
      go_wp2_with fail
      go_ret2
      exact ⟨_, 0, rfl, .inr ⟨HQ.out.1, X, HQ.out.2.1, .inr ⟨HQ.out.2.2, some t, HRR.out, .inr ⟨t, rfl, rfl, HS6.out⟩⟩⟩, HB6.out⟩
/-- Two answers that are one. -/
def SAgree (v1 v2 : Value) (w : World) : Prop := (v1 = .slice none 0 0 ∧ v2 = .slice none 0 0) ∨ ∃ t, SpanL w 0 v1 t ∧ SpanL w 0 v2 t
theorem SAgree.call {v1 v2 : Value} {w w' : World} (h : SAgree v1 v2 w) (hb : Below w.heap.size w w') : SAgree v1 v2 w' := by
  rcases h with h | ⟨t, h1, h2⟩
  · exact .inl h
  · exact .inr ⟨t, h1.call hb, h2.call hb⟩
theorem sres_agree {b n : Nat} {L : Nat → Nat} {z : Nat → Nat → Int} {v1 v2 : Value} {x1 x2 : Int} {w : World} (h1 : SRes (TopP n fun i k => (z i k).toNat) accP b n L z v1 x1 w) (h2 : SRes (TopD n fun i k => (z i k).toNat) (fun _ => accD fun i k => (z i k).toNat) 0 n L z v2 x2 w) : x1 = x2 ∧ SAgree v1 v2 w := by
  rcases h1 with ⟨a1, rfl, rfl⟩ | ⟨a0, X, hX, h1⟩
  · rcases h2 with ⟨b1, rfl, rfl⟩ | ⟨b0, _⟩
    · exact ⟨rfl, .inl ⟨rfl, rfl⟩⟩
    · exact absurd b0 a1
  · rcases h2 with ⟨b1, _⟩ | ⟨b0, Y, hY, h2⟩
    · exact absurd a0 b1
    · have hN : SmallX n (fun i k => (z i k).toNat) := fun i k hi hk => by
        have h := ((net_ok a0).2.2 i hi).2 k hk
        unfold okS at h
        dsimp only; omega
      have he := tops_one hN hX hY
      rcases h1 with ⟨⟨i, k, hi, hk, hz⟩, rfl, rfl⟩ | ⟨hnz, r, hr, h1⟩
      · rcases h2 with ⟨_, rfl, rfl⟩ | ⟨hnz2, _⟩
        · exact ⟨rfl, .inl ⟨rfl, rfl⟩⟩
        · exact absurd ((he i k hi hk).symm.trans hz) (hnz2 i k hi hk)
      · rcases h2 with ⟨⟨i, k, hi, hk, hz⟩, _⟩ | ⟨_, r', hr', h2⟩
        · exact absurd ((he i k hi hk).trans hz) (hnz i k hi hk)
        · obtain rfl := solve_one hN hX hnz hr hr'
          rcases h1 with ⟨rfl, rfl, rfl⟩ | ⟨t, rfl, rfl, h1⟩
          · rcases h2 with ⟨_, rfl, rfl⟩ | ⟨t', e, _⟩
            · exact ⟨rfl, .inl ⟨rfl, rfl⟩⟩
            · cases e
          · rcases h2 with ⟨e, _⟩ | ⟨t', e, rfl, h2⟩
            · cases e
            · obtain rfl := Option.some.inj e
              exact ⟨rfl, .inr ⟨t, h1.low (Nat.zero_le _), h2⟩⟩
set_option maxRecDepth 100000 in
set_option maxHeartbeats 2000000 in
theorem listSpan_same (v1 v2 : Value) (t : List Pr) (w : World) (h1 : SpanL w 0 v1 t) (h2 : SpanL w 0 v2 t) : Calls Tryd.prog 26 #[v1, v2] w fun e w' => e = .returned (.bool true) ∧ Below w.heap.size w w' := by
  have H1 := Lib.hid h1
  have H2 := Lib.hid h2
  obtain ⟨oa1, c1, rfl, p1, p2, p3⟩ := h1
  obtain ⟨oa2, c2, rfl, p4, p5, p6⟩ := h2
  obtain ⟨n, hn⟩ : ∃ n, t.length = n := ⟨_, rfl⟩
  rw [hn] at H1 H2 p1 p4 p3 p6
  rw [hn]
  have HP3 := Lib.hid p3
  have HP6 := Lib.hid p6
  have HN := Lib.hid hn
  unfold maxLen at p2 p5
  clear p3 p6 hn
  have hnb : ((n : Int) != (n : Int)) = false := by simp
  go_enter Tryd.func26, Tryd.ntmps26
  go_wp2_with fail
  go_loopw [5] (fun c wr => ∃ k : Nat, c = .int .i64 (k : Int) ∧ k ≤ n ∧ Hid (Below w.heap.size w wr)) (fun c _ => n - (intOf c).toNat)
  case atStart => exact ⟨0, rfl, by omega, Lib.hid (Below.refl _ _)⟩
  case round =>
    obtain ⟨k, rfl, hk, HB⟩ := hrel
    by_cases hlt : k < n
    · have k1 : (0 : Int) ≤ (k : Int) := by omega
      have k2 : (k : Int) < (n : Int) := by omega
      obtain ⟨g1, rfl, _, _, _⟩ := HP3.out (by omega)
      obtain ⟨g2, rfl, _, _, _⟩ := HP6.out (by omega)
      obtain ⟨q1, q2⟩ := (H1.out.call HB.out).spot (k := k) (by rw [HN.out]; exact hlt)
      obtain ⟨q3, q4⟩ := (H2.out.call HB.out).spot (k := k) (by rw [HN.out]; exact hlt)
      obtain ⟨F, hF⟩ : ∃ F : Int, ((t.getD k pD).1 : Int) = F := ⟨_, rfl⟩
      obtain ⟨G, hG⟩ : ∃ G : Int, ((t.getD k pD).2 : Int) = G := ⟨_, rfl⟩
      rw [hF] at q1 q3
      rw [hG] at q2 q4
      clear hF hG
      go_wp2_with fail
      go_quiet (fail)
      go_wp2_with fail
      go_roundw
      case rel => exact ⟨k + 1, by go_num, by omega, Lib.hid (below_drewN HB.out _)⟩
      case measure => simp [intOf]; omega
    · go_wp2_with fail
      go_ret
      exact ⟨rfl, HB.out⟩
set_option maxHeartbeats 1000000 in
theorem listSpan_nil (w : World) : Calls Tryd.prog 26 #[.slice none 0 0, .slice none 0 0] w fun e w' => e = .returned (.bool true) ∧ Below w.heap.size w w' :=
  listSpan_same _ _ [] w (SpanL.nil _ _) (SpanL.nil _ _)
theorem listSpan_agree (v1 v2 : Value) (w : World) (h : SAgree v1 v2 w) : Calls Tryd.prog 26 #[v1, v2] w fun e w' => e = .returned (.bool true) ∧ Below w.heap.size w w' := by
  rcases h with ⟨rfl, rfl⟩ | ⟨t, h1, h2⟩
  · exact listSpan_nil w
  · exact listSpan_same v1 v2 t w h1 h2
set_option maxRecDepth 100000 in
set_option maxHeartbeats 4000000 in
theorem spanSolves_walk (oa : Option Addr) (n cap : Nat) (A : Nat → Option Addr) (L C : Nat → Nat) (z : Nat → Nat → Int) (w : World) (hT : ErrT w) (hn : n ≤ 9223372036854775807) (hL : ∀ i, i < n → L i ≤ 9223372036854775807) (hR : NetR w oa n A L C z) : Calls Tryd.prog 6 #[.slice oa n cap] w fun e w' => e = .returned (.bool true) ∧ Below w.heap.size w w' := by
  have HT := Lib.hid hT
  have HR := Lib.hid hR
  have HL := Lib.hid hL
  clear hT hR hL
  by_cases h1 : 20 < n
  · go_enter Tryd.func6, Tryd.ntmps6
    go_wp2_with fail
    go_ret
    exact ⟨rfl, Below.refl _ _⟩
  · have hn2 : n ≤ 1000 := by omega
    go_enter Tryd.func6, Tryd.ntmps6
    go_wp2_with fail
    refine (plainSolve_any oa n cap A L C z _ HT.out hn2 HL.out HR.out).mono ?_; rintro e w1 ⟨v1, x1, rfl, hC1, hb1⟩
    have HC1 := Lib.hid hC1
    have HB1 := Lib.hid hb1
    clear hC1 hb1
    go_wp2_with fail
    refine (rSolve_any oa n cap A L C z _ hn2 HL.out (HR.out.call HB1.out)).mono ?_; rintro e w2 ⟨v2, x2, rfl, hC2, hb2⟩
    obtain ⟨hx, hag⟩ := sres_agree (HC1.out.call hb2) hC2
    subst hx
    have HAG := Lib.hid hag
    have HB2 := Lib.hid (thenB HB1.out hb2)
    clear hag hC2 hb2 HC1
    go_wp2_with fail
    refine (listSpan_agree v1 v2 _ HAG.out).mono ?_; rintro e w6 ⟨rfl, hb6⟩
    have HB6 := Lib.hid (thenB HB2.out hb6)
    clear hb6
    go_wp2_with fail
    go_ret
    exact ⟨rfl, HB6.out⟩
end Go.Proofs.YtpmppgmnnnlonaaDoor
