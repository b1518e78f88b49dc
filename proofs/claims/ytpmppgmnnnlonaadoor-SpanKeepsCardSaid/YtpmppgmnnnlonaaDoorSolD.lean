/- The program's solver: Solve and the door. -/
import Derived.Test.YtpmppgmnnnlonaaDoorSolC
namespace Go.Proofs.YtpmppgmnnnlonaaDoor
open Go.RowKit
/-- Spans that lie as a slice. -/
def SpanL (w : World) (b : Nat) (v : Value) (l : List Pr) : Prop := ∃ oa cap, v = .slice oa l.length cap ∧ l.length ≤ cap ∧ cap ≤ maxLen ∧ (0 < l.length → ∃ g, oa = some ⟨g, 0, none⟩ ∧ b ≤ g ∧ g < w.heap.size ∧ ∀ k, k < l.length → w.cell? ⟨g, k * 2, none⟩ = some (.int .i64 ((l.getD k pD).1 : Int)) ∧ w.cell? ⟨g, k * 2 + 1, none⟩ = some (.int .i64 ((l.getD k pD).2 : Int)))
theorem SpanL.call {w w' : World} {b : Nat} {v : Value} {l : List Pr} (h : SpanL w b v l) (hb : Below w.heap.size w w') : SpanL w' b v l := by
  obtain ⟨oa, cap, h1, h2, h3, h4⟩ := h
  refine ⟨oa, cap, h1, h2, h3, fun hp => ?_⟩
  obtain ⟨g, g1, g2, g3, g4⟩ := h4 hp
  exact ⟨g, g1, g2, Nat.lt_of_lt_of_le g3 hb.size, fun k hk => ⟨(hb.cell (p := ⟨g, k * 2, none⟩) g3).trans (g4 k hk).1, (hb.cell (p := ⟨g, k * 2 + 1, none⟩) g3).trans (g4 k hk).2⟩⟩
theorem SpanL.low {w : World} {b b' : Nat} {v : Value} {l : List Pr} (h : SpanL w b v l) (hb : b' ≤ b) : SpanL w b' v l := by
  obtain ⟨oa, cap, h1, h2, h3, h4⟩ := h
  refine ⟨oa, cap, h1, h2, h3, fun hp => ?_⟩
  obtain ⟨g, g1, g2, g3, g4⟩ := h4 hp
  exact ⟨g, g1, by omega, g3, g4⟩
theorem SpanL.nil (w : World) (b : Nat) : SpanL w b (.slice none 0 0) [] := ⟨none, 0, rfl, Nat.le_refl _, by simp [maxLen], fun h => absurd h (Nat.lt_irrefl 0)⟩
/-- What a solver answers, of a net that may be or not. -/
def SRes (Top : (Nat → Nat → Nat) → Prop) (acc : (Nat → Nat → Nat) → List Pr → Pr → Prop) (b n : Nat) (L : Nat → Nat) (z : Nat → Nat → Int) (v : Value) (x : Int) (w' : World) : Prop :=
  (netE n L z ≠ 0 ∧ v = .slice none 0 0 ∧ x = netE n L z) ∨ (netE n L z = 0 ∧ ∃ X, Top X ∧ ((∃ i k, i < n ∧ k < n ∧ X i k = 0) ∧ v = .slice none 0 0 ∧ x = 12 ∨ (∀ i k, i < n → k < n → X i k ≠ 0) ∧ ∃ r, IsF n (acc X) n [] r ∧ (r = none ∧ v = .slice none 0 0 ∧ x = 12 ∨ ∃ t, r = some t ∧ x = 0 ∧ SpanL w' b v t)))
theorem SRes.call {Top : (Nat → Nat → Nat) → Prop} {acc : (Nat → Nat → Nat) → List Pr → Pr → Prop} {b n : Nat} {L : Nat → Nat} {z : Nat → Nat → Int} {v : Value} {x : Int} {w w' : World} (h : SRes Top acc b n L z v x w) (hb : Below w.heap.size w w') : SRes Top acc b n L z v x w' := by
  rcases h with h | ⟨h0, X, hX, h | ⟨h1, r, h2, h | ⟨t, h3, h4, h5⟩⟩⟩
  · exact .inl h
  · exact .inr ⟨h0, X, hX, .inl h⟩
  · exact .inr ⟨h0, X, hX, .inr ⟨h1, r, h2, .inl h⟩⟩
  · exact .inr ⟨h0, X, hX, .inr ⟨h1, r, h2, .inr ⟨t, h3, h4, h5.call hb⟩⟩⟩
def SvP (n : Nat) (L : Nat → Nat) (z : Nat → Nat → Int) (w : World) (e : Ending) (w' : World) : Prop := ∃ v x, e = .returned (.tuple #[v, errV x]) ∧ SRes (TopP n fun i k => (z i k).toNat) accP w.heap.size n L z v x w' ∧ Below w.heap.size w w'
def SvQ (n : Nat) (L : Nat → Nat) (z : Nat → Nat → Int) (w : World) (e : Ending) (w' : World) : Prop := ∃ v x, e = .returned (.tuple #[v, .int .i64 x]) ∧ SRes (TopP n fun i k => (z i k).toNat) accP w.heap.size n L z v x w' ∧ Below w.heap.size w w'
theorem SolSt.start {w1 : World} {b O n : Nat} {R cp : Nat → Nat} {X : Nat → Nat → Nat} {t : TypeId} (h : MatR w1 b O n n R cp X) : SolSt w1.heap.size O n R cp X (.slice none 0 0) [] (w1.alloc (.cells #[.slice (some ⟨O, 0, none⟩) n n, .slice none 0 0] t)) := by
  have hO := h.1.2
  have hR : ∀ i, i < n → R i < w1.heap.size := fun i hi => (h.2.1 i hi).2.2.1
  refine ⟨⟨(h.low (Nat.zero_le _)).call (Below.alloc (Below.refl _ _) (Nat.le_refl _) _), hO, hR⟩, by simp, ?_, ?_, ?_, rfl, .inl ⟨rfl, rfl⟩⟩
  · rw [World.cell?_alloc_at _ _ _ _ (by simp)]; rfl
  · rw [World.cell?_alloc_at _ _ _ _ (by simp)]; rfl
  · simp
set_option maxRecDepth 100000 in
set_option maxHeartbeats 4000000 in
theorem solve_any (oa : Option Addr) (n cap : Nat) (A : Nat → Option Addr) (L C : Nat → Nat) (z : Nat → Nat → Int) (w : World) (hn : n ≤ 1000) (hL : ∀ i, i < n → L i ≤ 9223372036854775807) (hR : NetR w oa n A L C z) : Calls Tryd.prog 41 #[.slice oa n cap] w (SvP n L z w) := by
  have hn2 : n ≤ 1000000 := by omega
  have HR := Lib.hid hR
  have HL := Lib.hid hL
  clear hR hL
  by_cases hE : netE n L z = 0
  · have HE := Lib.hid hE
    clear hE
    go_enter Tryd.func41, Tryd.ntmps41
    go_wp2_with fail
    refine (close_any oa n cap A L C z _ hn2 HL.out HE.out HR.out).mono ?_; rintro e w1 ⟨X, hX, h, hb⟩
    have HB1 := Lib.hid hb
    have HX := Lib.hid hX
    clear hb hX
    rcases h with ⟨h1, rfl⟩ | ⟨h1, O, R, cp, rfl, h2⟩
    · have HZ := Lib.hid h1
      clear h1
      rw [errV12]
      go_wp2_with fail
      go_ret2
      exact ⟨_, 12, rfl, .inr ⟨HE.out, X, HX.out, .inl ⟨HZ.out, rfl, rfl⟩⟩, HB1.out⟩
    · have HZ := Lib.hid h1
      have HS := Lib.hid (SolSt.start (t := 85) h2)
      have HB2 := Lib.hid (HB1.out.alloc HB1.out.size (.cells #[.slice (some ⟨O, 0, none⟩) n n, .slice none 0 0] 85))
      clear h1 h2
      go_wp2_with fail
      refine (next_any _ O n R cp X hn HX.out.1.1 n [] _ _ (by simp) (fun p hp => absurd hp (by simp)) HS.out).mono ?_
      rintro e w2 ⟨r, hr, hb2, (⟨rfl, rfl, v, hs⟩ | ⟨t, rfl, rfl, v, hs⟩)⟩
      · have HRR := Lib.hid hr
        have HB3 := Lib.hid (HB1.out.trans ((Below.alloc (Below.refl _ _) (Nat.le_refl _) (.cells #[.slice (some ⟨O, 0, none⟩) n n, .slice none 0 0] 85)).trans hb2 |>.mono HB1.out.size))
        clear hr hb2 hs
        go_wp2_with fail
        go_ret2
        exact ⟨_, 12, rfl, .inr ⟨HE.out, X, HX.out, .inr ⟨HZ.out, none, HRR.out, .inl ⟨rfl, rfl, rfl⟩⟩⟩, HB3.out⟩
      · have HRR := Lib.hid hr
        have HB3 := Lib.hid (HB1.out.trans ((Below.alloc (Below.refl _ _) (Nat.le_refl _) (.cells #[.slice (some ⟨O, 0, none⟩) n n, .slice none 0 0] 85)).trans hb2 |>.mono HB1.out.size))
        rw [List.nil_append] at hs
        obtain ⟨oa2, cap2, rfl, hl1, hl2, hl3⟩ := hs.form
        have HSL := Lib.hid (show SpanL w2 w.heap.size (.slice oa2 t.length cap2) t from SpanL.low ⟨oa2, cap2, rfl, hl1, hl2, hl3⟩ (by have := HB1.out.size; omega))
        obtain ⟨_, _, _, h6, _, _⟩ := hs
        clear hr hb2 hl1 hl2 hl3
        go_wp2_with fail
        go_ret2
        exact ⟨_, 0, rfl, .inr ⟨HE.out, X, HX.out, .inr ⟨HZ.out, some t, HRR.out, .inr ⟨t, rfl, rfl, HSL.out⟩⟩⟩, HB3.out⟩
  · have HE := Lib.hid hE
    have HV := Lib.hid (netE_pos hE)
    clear hE
    go_enter Tryd.func41, Tryd.ntmps41
    go_wp2_with fail
    refine (close_all oa n cap A L C z _ hn2 HL.out HR.out).mono ?_; rintro e w1 ⟨v, x, rfl, (⟨_, rfl, rfl⟩ | ⟨h0, _⟩), hb⟩
    · have HB1 := Lib.hid hb
      clear hb
      rw [HV.out]
      go_wp2_with fail
      go_ret2
      exact ⟨_, netE n L z, by rw [HV.out]; rfl, .inl ⟨HE.out, rfl, rfl⟩, HB1.out⟩
    · exact absurd h0 HE.out
set_option maxHeartbeats 2000000 in
theorem plainSolve_any (oa : Option Addr) (n cap : Nat) (A : Nat → Option Addr) (L C : Nat → Nat) (z : Nat → Nat → Int) (w : World) (hT : ErrT w) (hn : n ≤ 1000) (hL : ∀ i, i < n → L i ≤ 9223372036854775807) (hR : NetR w oa n A L C z) : Calls Tryd.prog 24 #[.slice oa n cap] w (SvQ n L z w) := by
  have HT := Lib.hid hT
  have HR := Lib.hid hR
  have HL := Lib.hid hL
  clear hT hR hL
  go_enter Tryd.func24, Tryd.ntmps24
  go_wp2_with fail
  refine (solve_any oa n cap A L C z _ hn HL.out HR.out).mono ?_; rintro e w1 ⟨v, x, rfl, hC, hb1⟩
  have HC := Lib.hid hC
  have HT1 := Lib.hid (HT.out.call hb1)
  have HB1 := Lib.hid hb1
  clear hC hb1
  go_wp2_with fail
  refine (tell_any _ _ HT1.out).mono ?_; rintro e w2 ⟨rfl, hb2⟩
  have HC2 := Lib.hid (HC.out.call hb2)
  have HB2 := Lib.hid (thenB HB1.out hb2); clear hb2
  go_wp2_with fail
  go_ret2
  exact ⟨v, x, rfl, HC2.out, HB2.out⟩
end Go.Proofs.YtpmppgmnnnlonaaDoor
