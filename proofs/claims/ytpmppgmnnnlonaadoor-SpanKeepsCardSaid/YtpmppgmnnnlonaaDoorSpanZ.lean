/- The law SpanNets. -/
import Derived.Test.YtpmppgmnnnlonaaDoorSpanY
namespace Go.Proofs.YtpmppgmnnnlonaaDoor
open Go.RowKit
/-- Two answers that are one. -/
def Agree (v1 v2 : Value) (n : Nat) (w' : World) : Prop := (v1 = .slice none 0 0 ∧ v2 = .slice none 0 0) ∨ ∃ b1 O1 c1 R1 p1 b2 O2 c2 R2 p2 X, v1 = .slice (some ⟨O1, 0, none⟩) n c1 ∧ v2 = .slice (some ⟨O2, 0, none⟩) n c2 ∧ MatR w' b1 O1 n n R1 p1 X ∧ MatR w' b2 O2 n n R2 p2 X
theorem cres_agree {wa wb w' : World} {n : Nat} {L : Nat → Nat} {z : Nat → Nat → Int} {v1 v2 : Value} {x1 x2 : Int} (h1 : CRes (TopP n fun i k => (z i k).toNat) wa n L z v1 x1 w') (h2 : CRes (TopD n fun i k => (z i k).toNat) wb n L z v2 x2 w') : x1 = x2 ∧ Agree v1 v2 n w' := by
  rcases h1 with ⟨a1, rfl, rfl⟩ | ⟨a0, X, hX, h1⟩
  · rcases h2 with ⟨b1, rfl, rfl⟩ | ⟨b0, _⟩
    · exact ⟨rfl, .inl ⟨rfl, rfl⟩⟩
    · exact absurd b0 a1
  · rcases h2 with ⟨b1, _⟩ | ⟨b0, Y, hY, h2⟩
    · exact absurd a0 b1
    · have hN : SmallX n (fun i k => (z i k).toNat) := fun i k hi hk => by
        have h := ((net_ok a0).2.2 i hi).2 k hk
        unfold okS at h
        dsimp only; omega
      have he := tops_one hN hX hY
      rcases h1 with ⟨⟨i, k, hi, hk, hz⟩, rfl, rfl⟩ | ⟨hnz, rfl, O, c, R, cp, rfl, hm⟩
      · rcases h2 with ⟨_, rfl, rfl⟩ | ⟨hnz2, _⟩
        · exact ⟨rfl, .inl ⟨rfl, rfl⟩⟩
        · exact absurd ((he i k hi hk).symm.trans hz) (hnz2 i k hi hk)
      · rcases h2 with ⟨⟨i, k, hi, hk, hz⟩, _⟩ | ⟨_, rfl, O2, c2, R2, cp2, rfl, hm2⟩
        · exact absurd ((he i k hi hk).trans hz) (hnz i k hi hk)
        · exact ⟨rfl, .inr ⟨_, O, c, R, cp, _, O2, c2, R2, cp2, X, rfl, rfl, hm, hm2.congr fun i k hi hk => (he i k hi hk).symm⟩⟩
theorem Agree.call {v1 v2 : Value} {n : Nat} {w' w'' : World} (h : Agree v1 v2 n w') (hb : Below w'.heap.size w' w'') : Agree v1 v2 n w'' := by
  rcases h with h | ⟨b1, O1, c1, R1, p1, b2, O2, c2, R2, p2, X, h1, h2, h3, h4⟩
  · exact .inl h
  · exact .inr ⟨b1, O1, c1, R1, p1, b2, O2, c2, R2, p2, X, h1, h2, h3.call hb, h4.call hb⟩
theorem lists_agree (v1 v2 : Value) (n : Nat) (w : World) (hn : n ≤ 1000000) (h : Agree v1 v2 n w) : Calls Tryd.prog 23 #[v1, v2] w fun e w' => e = .returned (.bool true) ∧ Below w.heap.size w w' := by
  rcases h with ⟨rfl, rfl⟩ | ⟨b1, O1, c1, R1, p1, b2, O2, c2, R2, p2, X, rfl, rfl, h3, h4⟩
  · exact lists_nil w
  · exact lists_same b1 b2 O1 O2 n c1 c2 R1 R2 p1 p2 X w hn h3 h4
set_option maxRecDepth 100000 in
set_option maxHeartbeats 4000000 in
theorem spanNets_walk (oa : Option Addr) (n cap : Nat) (A : Nat → Option Addr) (L C : Nat → Nat) (z : Nat → Nat → Int) (ob : Option Addr) (m cap2 : Nat) (x y : Nat → Int) (w : World) (hT : ErrT w) (hn : n ≤ 9223372036854775807) (hm : m ≤ 9223372036854775807) (hL : ∀ i, i < n → L i ≤ 9223372036854775807) (hR : NetR w oa n A L C z) (hS : SpanR w ob m x y) : Calls Tryd.prog 5 #[.slice oa n cap, .slice ob m cap2] w fun e w' => e = .returned (.bool true) ∧ Below w.heap.size w w' := by
  have HT := Lib.hid hT
  have HR := Lib.hid hR
  have HL := Lib.hid hL
  have HS := Lib.hid hS
  clear hT hR hL hS
  by_cases h1 : 20 < n
  · go_enter Tryd.func5, Tryd.ntmps5
    go_wp2_with fail
    go_ret
    exact ⟨rfl, Below.refl _ _⟩
  · by_cases h2 : 20 < m
    · go_enter Tryd.func5, Tryd.ntmps5
      go_wp2_with fail
      go_ret
      exact ⟨rfl, Below.refl _ _⟩
    · have hn2 : n ≤ 1000000 := by omega
      have hm2 : m ≤ 1000000 := by omega
      go_enter Tryd.func5, Tryd.ntmps5
      go_wp2_with fail
      refine (plainClose_all oa n cap A L C z _ HT.out hn2 HL.out HR.out).mono ?_; rintro e w1 ⟨v1, x1, rfl, hC1, hb1⟩
      have HC1 := Lib.hid hC1
      have HT1 := Lib.hid (HT.out.call hb1)
      have HB1 := Lib.hid hb1
      clear hC1 hb1
      go_wp2_with fail
      refine (closeNet_all oa n cap A L C z _ hn2 HL.out (HR.out.call HB1.out)).mono ?_; rintro e w2 ⟨v2, x2, rfl, hC2, hb2⟩
      obtain ⟨hx, hag⟩ := cres_agree (HC1.out.call hb2) hC2
      subst hx
      have HAG := Lib.hid hag
      have HT2 := Lib.hid (HT1.out.call hb2)
      have HB2 := Lib.hid (thenB HB1.out hb2)
      clear hag hC2 hb2 HC1
      go_wp2_with fail
      refine (plainHolds_any oa n cap A L C z ob m cap2 x y _ HT2.out hn2 hm2 HL.out (HR.out.call HB2.out) (HS.out.call HB2.out)).mono ?_; rintro e w3 ⟨rfl, hb3⟩
      have HAG3 := Lib.hid (HAG.out.call hb3)
      have HT3 := Lib.hid (HT2.out.call hb3)
      have HB3 := Lib.hid (thenB HB2.out hb3)
      clear hb3 HAG
      go_wp2_with fail
      refine (rholds_any oa n cap A L C z ob m cap2 x y _ hn2 hm2 HL.out (HR.out.call HB3.out) (HS.out.call HB3.out)).mono ?_; rintro e w4 ⟨rfl, hb4⟩
      have HAG4 := Lib.hid (HAG3.out.call hb4)
      have HT4 := Lib.hid (HT3.out.call hb4)
      have HB4 := Lib.hid (thenB HB3.out hb4)
      clear hb4 HAG3
      go_wp2_with fail
      refine (plainCheck_any oa n cap A L C z _ HT4.out hn2 HL.out (HR.out.call HB4.out)).mono ?_; rintro e w5 ⟨rfl, hb5⟩
      have HAG5 := Lib.hid (HAG4.out.call hb5)
      have HB5 := Lib.hid (thenB HB4.out hb5)
      clear hb5 HAG4
      go_wp2_with fail
      refine (netCheck_any oa n cap A L C z _ hn2 HL.out (HR.out.call HB5.out)).mono ?_; rintro e w' ⟨rfl, hw⟩; obtain rfl := hw.symm; clear hw
      go_wp2_with fail
      refine (lists_agree v1 v2 n _ hn2 HAG5.out).mono ?_; rintro e w6 ⟨rfl, hb6⟩
      have HB6 := Lib.hid (thenB HB5.out hb6)
      clear hb6
      go_wp2_with fail
      go_ret
      exact ⟨retB (by simp), HB6.out⟩
end Go.Proofs.YtpmppgmnnnlonaaDoor
