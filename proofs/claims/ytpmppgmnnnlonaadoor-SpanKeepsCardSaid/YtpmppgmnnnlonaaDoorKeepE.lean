/- The law SpanKeeps. -/
import Derived.Test.YtpmppgmnnnlonaaDoorKeepD
namespace Go.Proofs.YtpmppgmnnnlonaaDoor
open Go.RowKit
theorem top_zero {n : Nat} {N X Y : Nat → Nat → Nat} (hX : TopP n N X) (hY : TopP n N Y) {i k : Nat} (hi : i < n) (hk : k < n) (h : Y i k = 0) : X i k = 0 := by
  have hs := hY.2 X hX.1 i k hi hk
  refine set_ext _ _ (hX.1.1 i k hi hk) (by decide) fun v hv => ⟨fun e => ?_, fun e => by simp at e⟩
  have := hs v hv e
  rw [h] at this
  exact this
theorem sres_nil {Top : (Nat → Nat → Nat) → Prop} {acc : (Nat → Nat → Nat) → List Pr → Pr → Prop} {b n : Nat} {L : Nat → Nat} {z : Nat → Nat → Int} {v : Value} {x : Int} {w : World} (h : SRes Top acc b n L z v x w) (hx : x ≠ 0) : v = .slice none 0 0 := by
  rcases h with ⟨_, h, _⟩ | ⟨_, X, _, ⟨_, h, _⟩ | ⟨_, r, _, ⟨_, h, _⟩ | ⟨t, _, h, _⟩⟩⟩
  · exact h
  · exact h
  · exact h
  · exact absurd h hx
/-- A net that holds of spans is solved. -/
theorem keeps_solve {b n : Nat} {L : Nat → Nat} {z : Nat → Nat → Int} {m : Nat} {x y : Nat → Int} {v : Value} {xs : Int} {w : World} (h : holdB n L z m x y = true) (hs : SRes (TopP n fun i k => (z i k).toNat) accP b n L z v xs w) : xs = 0 := by
  obtain ⟨a, rfl, c, d⟩ := holdB_parts h
  have hN : SmallX m (fun i k => (z i k).toNat) := fun i k hi hk => by
    have h := ((net_ok a).2.2 i hi).2 k hk
    unfold okS at h
    dsimp only; omega
  rcases hs with ⟨h0, _⟩ | ⟨_, X, hX, ⟨⟨i, k, hi, hk, h0⟩, _⟩ | ⟨_, r, hr, ⟨rfl, _⟩ | ⟨t, _, h0, _⟩⟩⟩
  · exact absurd a h0
  · exact absurd h0 (bit_pos (close_keeps c d hX i k hi hk))
  · exact absurd hr (solve_keeps hN c d hX)
  · exact h0
/-- What is solved holds, and the closure is there. -/
theorem keeps_end {wa w1 w2 : World} {b n : Nat} {L : Nat → Nat} {z : Nat → Nat → Int} {v1 v2 : Value} {x1 : Int} (h1 : CRes (TopP n fun i k => (z i k).toNat) wa n L z v1 x1 w1) (h2 : SRes (TopP n fun i k => (z i k).toNat) accP b n L z v2 0 w2) : x1 = 0 ∧ ∃ t : List Pr, t.length ≤ 1000000 ∧ holdE n L z t.length (fun i => ((t.getD i pD).1 : Int)) (fun i => ((t.getD i pD).2 : Int)) = 0 ∧ holdB n L z t.length (fun i => ((t.getD i pD).1 : Int)) (fun i => ((t.getD i pD).2 : Int)) = true ∧ SpanL w2 b v2 t := by
  rcases h2 with ⟨h0, _, e⟩ | ⟨a, X, hX, ⟨_, _, e⟩ | ⟨hz, r, hr, ⟨_, _, e⟩ | ⟨t, rfl, _, hs⟩⟩⟩
  · exact absurd e.symm h0
  · cases e
  · cases e
  · refine ⟨?_, t, ?_, (sol_holdB a hX hz hr).1, (sol_holdB a hX hz hr).2, hs⟩
    · rcases h1 with ⟨h0, _⟩ | ⟨_, Y, hY, ⟨⟨i, k, hi, hk, h0⟩, _⟩ | ⟨_, h0, _⟩⟩
      · exact absurd a h0
      · exact absurd (top_zero hX hY hi hk h0) (hz i k hi hk)
      · exact h0
    · have := (isF_some _ _ _ hr).1
      have := (net_ok a).2.1
      omega
theorem holdE_of {n : Nat} {L : Nat → Nat} {z : Nat → Nat → Int} {m : Nat} {x y : Nat → Int} (h : holdB n L z m x y = true) : holdE n L z m x y = 0 := by
  unfold holdB at h
  exact (@of_decide_eq_true _ (Classical.propDecidable _) h).1
theorem keeps_close {wa w1 : World} {n : Nat} {L : Nat → Nat} {z : Nat → Nat → Int} {m : Nat} {x y : Nat → Int} {v : Value} {x1 : Int} (h : holdB n L z m x y = true) (h1 : CRes (TopP n fun i k => (z i k).toNat) wa n L z v x1 w1) : x1 = 0 ∧ ∃ X O c R cp, v = .slice (some ⟨O, 0, none⟩) n c ∧ TopP n (fun i k => (z i k).toNat) X ∧ MatR w1 wa.heap.size O n n R cp X := by
  rcases h1 with ⟨h0, _⟩ | ⟨_, X, hX, ⟨⟨i, k, hi, hk, h0⟩, _⟩ | ⟨_, h0, O, c, R, cp, hv, hm⟩⟩
  · exact absurd (holdB_parts h).1 h0
  · exact absurd h0 ((clo_holds h hX).2.2 i k hi hk)
  · exact ⟨h0, X, O, c, R, cp, hv, hX, hm⟩
set_option maxRecDepth 100000 in
set_option maxHeartbeats 8000000 in
theorem spanKeeps_walk (oa : Option Addr) (n cap : Nat) (A : Nat → Option Addr) (L C : Nat → Nat) (z : Nat → Nat → Int) (ob : Option Addr) (m cap2 : Nat) (x y : Nat → Int) (w : World) (hT : ErrT w) (hn : n ≤ 9223372036854775807) (hm : m ≤ 9223372036854775807) (hL : ∀ i, i < n → L i ≤ 9223372036854775807) (hR : NetR w oa n A L C z) (hS : SpanR w ob m x y) : Calls Tryd.prog 7 #[.slice oa n cap, .slice ob m cap2] w fun e w' => e = .returned (.bool true) ∧ Below w.heap.size w w' := by
  have HT := Lib.hid hT
  have HR := Lib.hid hR
  have HL := Lib.hid hL
  have HS := Lib.hid hS
  clear hT hR hL hS
  by_cases h1 : 20 < n
  · go_enter Tryd.func7, Tryd.ntmps7
    go_wp2_with fail
    go_ret
    exact ⟨rfl, Below.refl _ _⟩
  · by_cases h2 : 20 < m
    · go_enter Tryd.func7, Tryd.ntmps7
      go_wp2_with fail
      go_ret
      exact ⟨rfl, Below.refl _ _⟩
    · have hn2 : n ≤ 1000000 := by omega
      have hn3 : n ≤ 1000 := by omega
      have hm2 : m ≤ 1000000 := by omega
      go_enter Tryd.func7, Tryd.ntmps7
      go_wp2_with fail
      refine (plainHolds_any oa n cap A L C z ob m cap2 x y _ HT.out hn2 hm2 HL.out HR.out HS.out).mono ?_; rintro e w1 ⟨rfl, hb1⟩
      have HT1 := Lib.hid (HT.out.call hb1)
      have HB1 := Lib.hid hb1
      clear hb1
      by_cases hB : holdB n L z m x y = true
      · have hE := holdE_of hB
        rw [hE, hB]
        have HB := Lib.hid hB
        clear hB hE
        go_wp2_with fail
        refine (plainClose_all oa n cap A L C z _ HT1.out hn2 HL.out (HR.out.call HB1.out)).mono ?_; rintro e w2 ⟨v1, x1, rfl, hC1, hb2⟩
        have HC1 := Lib.hid hC1
        have HT2 := Lib.hid (HT1.out.call hb2)
        have HB2 := Lib.hid (thenB HB1.out hb2)
        clear hb2
        obtain ⟨rfl, X, O, c, R, cp, rfl, hX, hM⟩ := keeps_close HB.out hC1
        obtain ⟨f1, f2, _⟩ := clo_holds HB.out hX
        have HF := Lib.hid (And.intro f1 f2)
        have HM := Lib.hid hM.net
        clear hC1 hX hM f1 f2
        go_wp2_with fail
        refine (plainHolds_any _ n c _ _ cp _ ob m cap2 x y _ HT2.out hn2 hm2 (fun i hi => by omega) HM.out (HS.out.call HB2.out)).mono ?_; rintro e w3 ⟨rfl, hb3⟩
        rw [HF.out.1, HF.out.2]
        have HT3 := Lib.hid (HT2.out.call hb3)
        have HB3 := Lib.hid (thenB HB2.out hb3)
        clear hb3
        go_wp2_with fail
        refine (plainSolve_any oa n cap A L C z _ HT3.out hn3 HL.out (HR.out.call HB3.out)).mono ?_; rintro e w4 ⟨v4, x4, rfl, hC4, hb4⟩
        obtain rfl := keeps_solve HB.out hC4
        have HTz := Lib.hid (HT3.out.call hb4)
        have HBz := Lib.hid (thenB HB3.out hb4)
        clear hC4 hb4
        go_wp2_with fail
        refine (plainSolve_any oa n cap A L C z _ HTz.out hn3 HL.out (HR.out.call HBz.out)).mono ?_; rintro e w8 ⟨v8, x8, rfl, hC8, hb8⟩
        have HC8 := Lib.hid hC8
        have HT8 := Lib.hid (HTz.out.call hb8)
        have HB8 := Lib.hid (thenB HBz.out hb8)
        clear hC8 hb8
        by_cases hx8 : x8 = 0
        · subst hx8
          obtain ⟨hx1, t8, h1, h2, h3, h4⟩ := keeps_end HC1.out HC8.out
          first | subst hx1 | clear hx1
          obtain ⟨o8, c8, rfl, hs8⟩ := h4.span
          have HS8 := Lib.hid hs8
          have HH := Lib.hid (And.intro h2 h3)
          clear h2 h3 h4 hs8
          go_wp2_with fail
          refine (plainHolds_any oa n cap A L C z o8 _ c8 _ _ _ HT8.out hn2 h1 HL.out (HR.out.call HB8.out) HS8.out).mono ?_; rintro e w9 ⟨rfl, hb9⟩
          rw [HH.out.1, HH.out.2]
          have HB9 := Lib.hid (thenB HB8.out hb9)
          clear hb9
          go_wp2_with fail
          go_ret
          exact ⟨rfl, HB9.out⟩
        · obtain rfl := sres_nil HC8.out hx8
          have hxb : (x8 != 0) = true := by simpa using hx8
          go_wp2_with fail
          go_ret
          exact ⟨rfl, HB8.out⟩
      · have hB : holdB n L z m x y = false := by simpa using hB
        rw [hB]
        clear hB
        go_wp2_with fail
        refine (plainClose_all oa n cap A L C z _ HT1.out hn2 HL.out (HR.out.call HB1.out)).mono ?_; rintro e w2 ⟨v1, x1, rfl, hC1, hb2⟩
        have HC1 := Lib.hid hC1
        have HTz := Lib.hid (HT1.out.call hb2)
        have HBz := Lib.hid (thenB HB1.out hb2)
        clear hb2 hC1
        obtain ⟨E, hE⟩ : ∃ E, holdE n L z m x y = E := ⟨_, rfl⟩
        rw [hE]
        clear hE
        by_cases hE0 : E = 0
        · subst hE0
          go_wp2_with fail
          refine (plainSolve_any oa n cap A L C z _ HTz.out hn3 HL.out (HR.out.call HBz.out)).mono ?_; rintro e w8 ⟨v8, x8, rfl, hC8, hb8⟩
          have HC8 := Lib.hid hC8
          have HT8 := Lib.hid (HTz.out.call hb8)
          have HB8 := Lib.hid (thenB HBz.out hb8)
          clear hC8 hb8
          by_cases hx8 : x8 = 0
          · subst hx8
            obtain ⟨hx1, t8, h1, h2, h3, h4⟩ := keeps_end HC1.out HC8.out
            first | subst hx1 | clear hx1
            obtain ⟨o8, c8, rfl, hs8⟩ := h4.span
            have HS8 := Lib.hid hs8
            have HH := Lib.hid (And.intro h2 h3)
            clear h2 h3 h4 hs8
            go_wp2_with fail
            refine (plainHolds_any oa n cap A L C z o8 _ c8 _ _ _ HT8.out hn2 h1 HL.out (HR.out.call HB8.out) HS8.out).mono ?_; rintro e w9 ⟨rfl, hb9⟩
            rw [HH.out.1, HH.out.2]
            have HB9 := Lib.hid (thenB HB8.out hb9)
            clear hb9
            go_wp2_with fail
            go_ret
            exact ⟨rfl, HB9.out⟩
          · obtain rfl := sres_nil HC8.out hx8
            have hxb : (x8 != 0) = true := by simpa using hx8
            go_wp2_with fail
            go_ret
            exact ⟨rfl, HB8.out⟩
        · have hEb : (E == 0) = false := by simpa using hE0
          go_wp2_with fail
          refine (plainSolve_any oa n cap A L C z _ HTz.out hn3 HL.out (HR.out.call HBz.out)).mono ?_; rintro e w8 ⟨v8, x8, rfl, hC8, hb8⟩
          have HC8 := Lib.hid hC8
          have HT8 := Lib.hid (HTz.out.call hb8)
          have HB8 := Lib.hid (thenB HBz.out hb8)
          clear hC8 hb8
          by_cases hx8 : x8 = 0
          · subst hx8
            obtain ⟨hx1, t8, h1, h2, h3, h4⟩ := keeps_end HC1.out HC8.out
            first | subst hx1 | clear hx1
            obtain ⟨o8, c8, rfl, hs8⟩ := h4.span
            have HS8 := Lib.hid hs8
            have HH := Lib.hid (And.intro h2 h3)
            clear h2 h3 h4 hs8
            go_wp2_with fail
            refine (plainHolds_any oa n cap A L C z o8 _ c8 _ _ _ HT8.out hn2 h1 HL.out (HR.out.call HB8.out) HS8.out).mono ?_; rintro e w9 ⟨rfl, hb9⟩
            rw [HH.out.1, HH.out.2]
            have HB9 := Lib.hid (thenB HB8.out hb9)
            clear hb9
            go_wp2_with fail
            go_ret
            exact ⟨rfl, HB9.out⟩
          · obtain rfl := sres_nil HC8.out hx8
            have hxb : (x8 != 0) = true := by simpa using hx8
            go_wp2_with fail
            go_ret
            exact ⟨rfl, HB8.out⟩
end Go.Proofs.YtpmppgmnnnlonaaDoor
