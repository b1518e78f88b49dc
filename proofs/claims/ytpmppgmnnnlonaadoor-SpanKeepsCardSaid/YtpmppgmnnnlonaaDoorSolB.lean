/- The program's solver: does a span fit? -/
import Derived.Test.YtpmppgmnnnlonaaDoorSolA
import Derived.Test.YtpmppgmnnnlonaaDoorSpanY
namespace Go.Proofs.YtpmppgmnnnlonaaDoor
open Go.RowKit
def prV (l : List Pr) : List Value := l.flatMap fun p => [.int .i64 (p.1 : Int), .int .i64 (p.2 : Int)]
theorem prV_snoc (l : List Pr) (x : Pr) : prV (l ++ [x]) = prV l ++ [.int .i64 (x.1 : Int), .int .i64 (x.2 : Int)] := by simp [prV]
theorem prV_len (l : List Pr) : (prV l).length = l.length * 2 := by
  induction l with
  | nil => rfl
  | cons p l ih => show ([Value.int .i64 (p.1 : Int), Value.int .i64 (p.2 : Int)] ++ prV l).length = _; rw [List.length_append, ih]; simp; omega
theorem prV_at : ∀ (l : List Pr) (k : Nat), k < l.length → (prV l)[k * 2]? = some (.int .i64 ((l.getD k pD).1 : Int)) ∧ (prV l)[k * 2 + 1]? = some (.int .i64 ((l.getD k pD).2 : Int)) := by
  intro l
  induction l with
  | nil => intro k hk; exact absurd hk (Nat.not_lt_zero k)
  | cons p l ih =>
    intro k hk
    have e : prV (p :: l) = .int .i64 (p.1 : Int) :: .int .i64 (p.2 : Int) :: prV l := rfl
    cases k with
    | zero => rw [e]; exact ⟨rfl, rfl⟩
    | succ k =>
      have := ih k (by simpa using hk)
      rw [e, show (k + 1) * 2 = k * 2 + 1 + 1 by omega]
      simpa using this
def Valid (l : List Pr) : Prop := ∀ p ∈ l, p.1 < p.2
theorem Valid.at {l : List Pr} (h : Valid l) {k : Nat} (hk : k < l.length) : (l.getD k pD).1 < (l.getD k pD).2 := by
  have e : l.getD k pD = l[k] := by simp [List.getD, hk]
  rw [e]; exact h _ (List.getElem_mem hk)
theorem Valid.snoc {l : List Pr} (h : Valid l) {x : Pr} (hx : x.1 < x.2) : Valid (l ++ [x]) := fun p hp => by
  rcases List.mem_append.1 hp with h1 | h1
  · exact h p h1
  · obtain rfl := List.mem_singleton.1 h1; exact hx
/-- The solver: its net lies below it, its spans behind it. -/
def SolSt (S O n : Nat) (R cp : Nat → Nat) (X : Nat → Nat → Nat) (v : Value) (l : List Pr) (w : World) : Prop :=
  (MatR w 0 O n n R cp X ∧ O < S ∧ ∀ i, i < n → R i < S) ∧ S < w.heap.size ∧ w.cell? ⟨S, 0, none⟩ = some (.slice (some ⟨O, 0, none⟩) n n) ∧ w.cell? ⟨S, 1, none⟩ = some v ∧ w.frozen? ⟨S, 1, none⟩ = false ∧ w.ownsRow (S + 1) 23 2 v l.length (prV l)
section
variable {S O n : Nat} {R cp : Nat → Nat} {X : Nat → Nat → Nat} {v : Value} {l : List Pr} {w w' : World}
theorem SolSt.call (h : SolSt S O n R cp X v l w) (hb : Below w.heap.size w w') : SolSt S O n R cp X v l w' := by
  obtain ⟨⟨h1, h2, h3⟩, h4, h5, h6, h7, h8⟩ := h
  exact ⟨⟨h1.call hb, h2, h3⟩, Nat.lt_of_lt_of_le h4 hb.size, (hb.cell (p := ⟨S, 0, none⟩) h4).trans h5, (hb.cell (p := ⟨S, 1, none⟩) h4).trans h6, (hb.frozen (p := ⟨S, 1, none⟩) h4).trans h7, h8.kept (row := none) ⟨hb.os, hb.tape, hb.output, hb.size, fun k hk _ => hb.block k hk⟩ (by cases hv : v.ownBlock <;> simp)⟩
theorem SolSt.alloc (h : SolSt S O n R cp X v l w) (o : Obj) : SolSt S O n R cp X v l (w.alloc o) := h.call (Below.alloc (Below.refl _ _) (Nat.le_refl _) _)
/-- The spans as a slice: their cells. -/
theorem SolSt.form (h : SolSt S O n R cp X v l w) : ∃ oa cap, v = .slice oa l.length cap ∧ l.length ≤ cap ∧ cap ≤ maxLen ∧ (0 < l.length → ∃ g, oa = some ⟨g, 0, none⟩ ∧ S + 1 ≤ g ∧ g < w.heap.size ∧ ∀ k, k < l.length → w.cell? ⟨g, k * 2, none⟩ = some (.int .i64 ((l.getD k pD).1 : Int)) ∧ w.cell? ⟨g, k * 2 + 1, none⟩ = some (.int .i64 ((l.getD k pD).2 : Int))) := by
  have h8 := h.2.2.2.2.2
  have hlt := h8.lt
  have hcells := fun (g : Nat) (hg : v.ownBlock = some g) => h8.cells hg
  rcases h8.2 with ⟨rfl, h0⟩ | ⟨g, cap, cur, rfl, hb, hh, hc1, hc2, _⟩
  · exact ⟨none, 0, by rw [h0], by omega, by simp [maxLen], fun hp => by omega⟩
  · refine ⟨some ⟨g, 0, none⟩, cap, rfl, hc1, hc2, fun _ => ⟨g, rfl, hb, (hlt g rfl).2, fun k hk => ?_⟩⟩
    have h1 := hcells g rfl (k * 2) _ (prV_at l k hk).1
    have h2 := hcells g rfl (k * 2 + 1) _ (prV_at l k hk).2
    rw [Addr.add_lit] at h1 h2
    simp only [Nat.zero_add] at h1 h2
    exact ⟨h1, h2⟩
end
theorem has_nT (s k : Nat) (w : World) (hs : s < 8192) (hk : k < 13) (h : s.testBit k = true) : Calls Tryd.prog 50 #[.int .i64 (s : Int), .int .i64 (k : Int)] w fun e w' => e = .returned (.bool true) ∧ Below w.heap.size w w' := by
  refine (has_any s k w hs hk).mono ?_
  rintro e w' ⟨rfl, rfl⟩
  exact ⟨by rw [h], Below.refl _ _⟩
theorem has_nF (s k : Nat) (w : World) (hs : s < 8192) (hk : k < 13) (h : s.testBit k = false) : Calls Tryd.prog 50 #[.int .i64 (s : Int), .int .i64 (k : Int)] w fun e w' => e = .returned (.bool false) ∧ Below w.heap.size w w' := by
  refine (has_any s k w hs hk).mono ?_
  rintro e w' ⟨rfl, rfl⟩
  exact ⟨by rw [h], Below.refl _ _⟩
theorem wayP_Q (x y : Pr) (w : World) (h1 : x.1 < x.2) (h2 : y.1 < y.2) : Calls Tryd.prog 43 #[.agg #[.int .i64 (x.1 : Int), .int .i64 (x.2 : Int)], .agg #[.int .i64 (y.1 : Int), .int .i64 (y.2 : Int)]] w fun e w' => e = .returned (.int .i64 (wayP x y : Int)) ∧ Below w.heap.size w w' := way_any _ _ _ _ w (by omega) (by omega)
def FitR (b : Bool) (w : World) (e : Ending) (w' : World) : Prop := e = .returned (.bool b) ∧ Below w.heap.size w w'
open Classical in
set_option maxRecDepth 100000 in
set_option maxHeartbeats 4000000 in
theorem fits_any (S O n : Nat) (R cp : Nat → Nat) (X : Nat → Nat → Nat) (v : Value) (l : List Pr) (x : Pr) (w : World) (hn : n ≤ 1000000) (hX : SmallX n X) (hl : l.length < n) (hv : Valid l) (hx : x.1 < x.2) (hS : SolSt S O n R cp X v l w) : Calls Tryd.prog 60 #[.pointer (some ⟨S, 0, none⟩), .agg #[.int .i64 (x.1 : Int), .int .i64 (x.2 : Int)]] w (FitR (decide (accP X l x)) w) := by
  obtain ⟨oa, cap, hvv, hlc, hcm, _⟩ := hS.form
  subst hvv
  have HS := Lib.hid hS
  have HX := Lib.hid hX
  have HV := Lib.hid hv
  unfold maxLen at hcm
  have HA := Lib.hid (hS.alloc (.cells #[.int .i64 (x.1 : Int), .int .i64 (x.2 : Int)] 23))
  obtain ⟨_, a4, a5, a6, _⟩ := HA.out
  clear hS hX hv
  obtain ⟨m, hm⟩ : ∃ m, l.length = m := ⟨_, rfl⟩
  rw [hm] at a6 hl hlc
  have HM := Lib.hid hm
  clear hm
  go_enter Tryd.func60, Tryd.ntmps60
  go_wp2_with fail
  clear a4 a5 a6
  go_loopw [12] (fun c wr => ∃ k : Nat, c = .int .i64 (k : Int) ∧ k ≤ m ∧ Hid (∀ j, j < k → (X m j).testBit (wayP x (l.getD j pD)) = true) ∧ Hid (Below w.heap.size w wr) ∧ Hid (Two wr w.heap.size (x.1 : Int) (x.2 : Int))) (fun c _ => m - (intOf c).toNat)
  case atStart => exact ⟨0, rfl, by omega, Lib.hid fun j hj => absurd hj (Nat.not_lt_zero j), Lib.hid ((Below.refl _ _).alloc (Nat.le_refl _) _), Lib.hid (Two.new w _ _ _)⟩
  case round =>
    obtain ⟨k, rfl, hk, HK, HB, HT⟩ := hrel
    obtain ⟨wA, rfl⟩ : ∃ wo : World, wo = wr := ⟨_, rfl⟩
    by_cases hlt : k < m
    · have hS := HS.out.call HB.out
      obtain ⟨oa', cap', e1, _, _, e2⟩ := hS.form
      simp only [Value.slice.injEq] at e1
      obtain ⟨rfl, _, rfl⟩ := e1
      obtain ⟨g, rfl, hg1, hg2, hg3⟩ := e2 (by rw [HM.out]; omega)
      obtain ⟨p1, p2⟩ := hg3 k (by rw [HM.out]; omega)
      have hS2 := hS.alloc (.cells #[.int .i64 ((l.getD k pD).1 : Int), .int .i64 ((l.getD k pD).2 : Int)] 23)
      obtain ⟨⟨hM, _, _⟩, h4, h5, h6, _, _⟩ := hS2
      rw [HM.out] at h6
      obtain ⟨q1, _, _, _, q5⟩ := hM.2.1 m hl
      have q2 := (q5 k (by omega)).1
      have hT2 := HT.out.alloc (.cells #[.int .i64 ((l.getD k pD).1 : Int), .int .i64 ((l.getD k pD).2 : Int)] 23)
      have hY := Two.new wA ((l.getD k pD).1 : Int) ((l.getD k pD).2 : Int) 23
      have r1 := cell_regrown h5
      have r2 := cell_regrown h6
      have r3 := cell_regrown q1
      have r4 := cell_regrown q2
      have r5 := cell_regrown hT2.2.1
      have r6 := cell_regrown hT2.2.2
      have r7 := cell_regrown hY.2.1
      have r8 := cell_regrown hY.2.2
      have hx8 := HX.out m k hl (by omega)
      have hy := HV.out.at (show k < l.length by rw [HM.out]; omega)
      have hw13 := wayP_lt x (l.getD k pD)
      have m1 : (0 : Int) ≤ (m : Int) := by omega
      have m2 : (m : Int) < (n : Int) := by omega
      have k1 : (0 : Int) ≤ (k : Int) := by omega
      have k2 : (k : Int) < (n : Int) := by omega
      have HT2 := Lib.hid hT2
      have HB2 := Lib.hid (HB.out.alloc HB.out.size (.cells #[.int .i64 ((l.getD k pD).1 : Int), .int .i64 ((l.getD k pD).2 : Int)] 23))
      obtain ⟨Y, hY0⟩ : ∃ Y, l.getD k pD = Y := ⟨_, rfl⟩
      rw [hY0] at p1 p2 r1 r2 r3 r4 r5 r6 r7 r8 hy hw13 HT2 HB2
      have HY0 := Lib.hid hY0
      have HQ := Lib.hid (And.intro hx8 (And.intro hy hx))
      clear hS hM h4 h5 h6 q1 q5 q2 hT2 hY hx8 hy hY0 e2 hg3
      cases hb : (X m k).testBit (wayP x Y)
      · have HBIT := Lib.hid hb
        clear hb
        go_wp2_with fail
        refine wp_region_below (by kernel_rfl) (by kernel_rfl) ?_
        repeat (go_big_quiet_step ((first | (go_at_call 43; exact Calls.regrown_of (wayP_Q x Y _ HQ.out.2.2 HQ.out.2.1)) | (go_at_call 50; exact Calls.regrown_of (has_nF _ _ _ HQ.out.1 hw13 HBIT.out)))))
        refine wpQuiet_nil ?_
        intro w2 hb2
        have HB3 := Lib.hid (thenB HB2.out hb2)
        clear hb2 r1 r2 r3 r4 r5 r6 r7 r8
        go_wp2_with fail
        go_ret
        refine ⟨retB (Eq.symm (decide_eq_false fun h => ?_)), HB3.out⟩
        have := h k (by rw [HM.out]; omega)
        rw [HM.out, HY0.out, HBIT.out] at this
        cases this
      · have HBIT := Lib.hid hb
        clear hb
        go_wp2_with fail
        refine wp_region_below (by kernel_rfl) (by kernel_rfl) ?_
        repeat (go_big_quiet_step ((first | (go_at_call 43; exact Calls.regrown_of (wayP_Q x Y _ HQ.out.2.2 HQ.out.2.1)) | (go_at_call 50; exact Calls.regrown_of (has_nT _ _ _ HQ.out.1 hw13 HBIT.out)))))
        refine wpQuiet_nil ?_
        intro w2 hb2
        have HB3 := Lib.hid (thenB HB2.out hb2)
        have HT3 := Lib.hid (HT2.out.call hb2)
        clear hb2 r1 r2 r3 r4 r5 r6 r7 r8
        go_wp2_with fail
        go_roundw
        case rel =>
          refine ⟨k + 1, by go_num, by omega, Lib.hid fun j hj => ?_, HB3, HT3⟩
          by_cases e : j = k
          · subst e; rw [HY0.out]; exact HBIT.out
          · exact HK.out j (by omega)
        case measure => simp [intOf]; omega
    · obtain rfl : m = k := by omega
      go_wp2_with fail
      go_ret
      refine ⟨retB (Eq.symm (decide_eq_true fun j hj => ?_)), HB.out⟩
      rw [HM.out] at hj ⊢
      exact HK.out j hj
end Go.Proofs.YtpmppgmnnnlonaaDoor
