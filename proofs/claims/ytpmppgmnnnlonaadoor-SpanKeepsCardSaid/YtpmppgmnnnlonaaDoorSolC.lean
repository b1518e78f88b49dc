/- The program's solver: next. -/
import Derived.Test.YtpmppgmnnnlonaaDoorSolB
import Derived.Deep.RegionLaw
namespace Go.Proofs.YtpmppgmnnnlonaaDoor
open Go.RowKit
/-- What next answers. -/
def NextR (S O n : Nat) (R cp : Nat → Nat) (X : Nat → Nat → Nat) (k : Nat) (l : List Pr) (w : World) (e : Ending) (w' : World) : Prop :=
  ∃ r, IsF n (accP X) k l r ∧ Below S w w' ∧ ((r = none ∧ e = .returned (.bool false) ∧ ∃ v, SolSt S O n R cp X v l w') ∨ ∃ t, r = some t ∧ e = .returned (.bool true) ∧ ∃ v, SolSt S O n R cp X v (l ++ t) w')
/-- The spans stored anew, one more. -/
theorem SolSt.more {S O n : Nat} {R cp : Nat → Nat} {X : Nat → Nat → Nat} {v v' : Value} {l : List Pr} {x : Pr} {w w2 : World} {o : Obj} (h : SolSt S O n R cp X v l w) (hg : (w.alloc o).drew.grownBy w2 v.ownBlock) (hown : w2.ownsRow (S + 1) 23 2 v' (l.length + 1) (prV l ++ [.int .i64 (x.1 : Int), .int .i64 (x.2 : Int)])) :
    SolSt S O n R cp X v' (l ++ [x]) (w2.setCell ⟨S, 1, none⟩ v') ∧ w2.cell? ⟨S, 1, none⟩ = some v ∧ w2.frozen? ⟨S, 1, none⟩ = false ∧ Below S w (w2.setCell ⟨S, 1, none⟩ v') := by
  obtain ⟨⟨h1, h2, h3⟩, h4, h5, h6, h7, h8⟩ := h
  have hv : ∀ k, v.ownBlock = some k → S + 1 ≤ k := fun k hk => (h8.lt k hk).1
  have hbl : Below (S + 1) w w2 := ((Below.drew (Below.alloc (Below.refl _ _) (by omega) o))).grown hg (by show S + 1 ≤ (w.alloc o).heap.size; simp; omega) (fun k hk => hv k hk)
  have c1 : w2.cell? ⟨S, 1, none⟩ = some v := (hbl.cell (p := ⟨S, 1, none⟩) (by show S < S + 1; omega)).trans h6
  have f1 : w2.frozen? ⟨S, 1, none⟩ = false := (hbl.frozen (p := ⟨S, 1, none⟩) (by show S < S + 1; omega)).trans h7
  have hb2 : Below S w (w2.setCell ⟨S, 1, none⟩ v') := (hbl.mono (by omega)).setCell (by show S ≤ S; exact Nat.le_refl _) v'
  have hz : (w2.setCell ⟨S, 1, none⟩ v').heap.size = w2.heap.size := by simp [World.setCell]
  refine ⟨⟨⟨?_, h2, h3⟩, by rw [hz]; exact Nat.lt_of_lt_of_le h4 hbl.size, ?_, World.cell?_setCell_same _ _ _ c1, by rw [World.frozen?_setCell]; exact f1, ?_⟩, c1, f1, hb2⟩
  · obtain ⟨⟨g1, g2⟩, g3, g4⟩ := h1
    refine ⟨⟨g1, Nat.lt_of_lt_of_le g2 hb2.size⟩, fun i hi => ?_, g4⟩
    obtain ⟨e1, e2, e3, e4, e5⟩ := g3 i hi
    exact ⟨(hb2.cell (p := ⟨O, i, none⟩) h2).trans e1, e2, Nat.lt_of_lt_of_le e3 hb2.size, e4, fun k hk => ⟨(hb2.cell (p := ⟨R i, k, none⟩) (h3 i hi)).trans (e5 k hk).1, (hb2.frozen (p := ⟨R i, k, none⟩) (h3 i hi)).trans (e5 k hk).2⟩⟩
  · rw [World.cell?_setCell_other _ _ _ _ (by intro e; have := congrArg Addr.off e; simp at this)]
    exact (hbl.cell (p := ⟨S, 0, none⟩) (by show S < S + 1; omega)).trans h5
  · rw [prV_snoc, List.length_append]
    exact ownsRow_setCell_below hown (by show S < S + 1; omega) v'
/-- The last span left out again. -/
theorem SolSt.less {S O n : Nat} {R cp : Nat → Nat} {X : Nat → Nat → Nat} {l : List Pr} {x : Pr} {w : World} {g cap : Nat} (h : SolSt S O n R cp X (.slice (some ⟨g, 0, none⟩) (l.length + 1) cap) (l ++ [x]) w) :
    SolSt S O n R cp X (.slice (some ⟨g, 0, none⟩) l.length cap) l (w.setCell ⟨S, 1, none⟩ (.slice (some ⟨g, 0, none⟩) l.length cap)) := by
  obtain ⟨⟨h1, h2, h3⟩, h4, h5, h6, h7, h8⟩ := h
  have hz : (w.setCell ⟨S, 1, none⟩ (.slice (some ⟨g, 0, none⟩) l.length cap)).heap.size = w.heap.size := by simp [World.setCell]
  have far : ∀ B o, B ≠ S → (w.setCell ⟨S, 1, none⟩ (.slice (some ⟨g, 0, none⟩) l.length cap)).cell? ⟨B, o, none⟩ = w.cell? ⟨B, o, none⟩ := fun B o hne => World.cell?_setCell_other _ _ _ _ (by intro e; exact hne (congrArg Addr.block e).symm)
  refine ⟨⟨?_, h2, h3⟩, by rw [hz]; exact h4, ?_, World.cell?_setCell_same _ _ _ h6, by rw [World.frozen?_setCell]; exact h7, ?_⟩
  · obtain ⟨⟨g1, g2⟩, g3, g4⟩ := h1
    refine ⟨⟨g1, by rw [hz]; exact g2⟩, fun i hi => ?_, g4⟩
    obtain ⟨e1, e2, e3, e4, e5⟩ := g3 i hi
    have hRi := h3 i hi
    exact ⟨by rw [far O i (by omega)]; exact e1, e2, by rw [hz]; exact e3, e4, fun k hk => ⟨by rw [far (R i) k (by omega)]; exact (e5 k hk).1, by rw [World.frozen?_setCell]; exact (e5 k hk).2⟩⟩
  · rw [World.cell?_setCell_other _ _ _ _ (by intro e; have := congrArg Addr.off e; simp at this)]
    exact h5
  · have h9 : w.ownsRow (S + 1) 23 2 (.slice (some ⟨g, 0, none⟩) l.length cap) l.length (prV l) := by
      obtain ⟨_, h10⟩ := h8
      refine ⟨prV_len l, .inr ?_⟩
      rcases h10 with ⟨e, _⟩ | ⟨g', cap', cur, e, e1, e2, e3, e4, e5, e6⟩
      · cases e
      · simp only [Value.slice.injEq, Option.some.injEq, Addr.mk.injEq, and_true] at e
        obtain ⟨rfl, _, rfl⟩ := e
        rw [List.length_append] at e3 e6
        simp only [List.length_cons, List.length_nil, Nat.zero_add] at e3 e6
        refine ⟨g, cap, cur, rfl, e1, e2, by omega, e4, e5, ?_⟩
        have := congrArg (List.take (l.length * 2)) e6
        have e7 : List.take (l.length * 2) (prV l ++ [.int .i64 (x.1 : Int), .int .i64 (x.2 : Int)]) = prV l := by
          rw [List.take_append_of_le_length (by rw [prV_len]; exact Nat.le_refl _), List.take_of_length_le (by rw [prV_len]; exact Nat.le_refl _)]
        rw [List.take_take, Nat.min_eq_left (by omega), prV_snoc, e7] at this
        exact this
    exact ownsRow_setCell_below h9 (by show S < S + 1; omega) _
open Classical in
set_option maxRecDepth 100000 in
set_option maxHeartbeats 8000000 in
theorem next_any (S O n : Nat) (R cp : Nat → Nat) (X : Nat → Nat → Nat) (hn : n ≤ 1000) (hX : SmallX n X) : ∀ (k : Nat) (l : List Pr) (v : Value) (w : World), l.length + k = n → Valid l → SolSt S O n R cp X v l w → Calls Tryd.prog 51 #[.pointer (some ⟨S, 0, none⟩)] w (NextR S O n R cp X k l w) := by
  have HX := Lib.hid hX
  clear hX
  intro k
  induction k with
  | zero =>
    intro l v w hl hv hS
    obtain ⟨oa, cap, hvv, _, _, _⟩ := hS.form
    subst hvv
    have HS := Lib.hid hS
    have hln : l.length = n := by omega
    obtain ⟨_, _, h5, h6, _, _⟩ := hS
    rw [hln] at h6
    have hnb : ((n : Int) == (n : Int)) = true := by simp
    have HL := Lib.hid hln
    clear hl hv hln
    go_enter Tryd.func51, Tryd.ntmps51
    go_wp2_with fail
    go_ret
    exact ⟨some [], rfl, Below.refl _ _, .inr ⟨[], rfl, rfl, _, by rw [List.append_nil]; exact HS.out⟩⟩
  | succ k ih =>
    have IH := Lib.hid ih
    clear ih
    intro l v w hl hv hS
    obtain ⟨oa, cap, hvv, hlc, hcm, _⟩ := hS.form
    subst hvv
    obtain ⟨m, hm⟩ : ∃ m, l.length = m := ⟨_, rfl⟩
    have HS := Lib.hid hS
    have HV := Lib.hid hv
    obtain ⟨_, _, h5, h6, _, _⟩ := hS
    rw [hm] at h6 hl hlc
    have hmb : ((m : Int) == (n : Int)) = false := by simp; omega
    have HM := Lib.hid hm
    clear hv hm
    unfold maxLen at hcm
    go_enter Tryd.func51, Tryd.ntmps51
    go_wp2_with fail
    clear h5 h6 hlc hcm
    go_loopw [5] (fun c wr => ∃ F : Nat, c = .int .i64 (F : Int) ∧ F + 1 ≤ 2 * n ∧ ∃ v, Hid (SolSt S O n R cp X v l wr) ∧ Hid (Below S w wr) ∧ Hid (∀ y : Pr, Cand n y → y.1 < F → accP X l y → IsF n (accP X) k (l ++ [y]) none)) (fun c _ => 2 * n - (intOf c).toNat)
    case atStart => exact ⟨0, rfl, by omega, _, HS, Lib.hid (Below.refl _ _), Lib.hid fun y _ hy => absurd hy (Nat.not_lt_zero _)⟩
    case round =>
      clear HS
      obtain ⟨F, rfl, hF, v, HS, HB, HN⟩ := hrel
      obtain ⟨wA, rfl⟩ : ∃ wo : World, wo = wr := ⟨_, rfl⟩
      by_cases hF2 : F + 1 < 2 * n
      · have hFd : decide ((F : Int) < 2 * (n : Int) - 1) = true := by simp; omega
        have hF3 : (F : Int) < 2 * (n : Int) - 1 := by omega
        go_wp2_with fail
        go_loopw [6] (fun c wr => ∃ Q : Nat, c = .int .i64 (Q : Int) ∧ F < Q ∧ Q ≤ 2 * n ∧ ∃ v, Hid (SolSt S O n R cp X v l wr) ∧ Hid (Below S w wr) ∧ Hid (∀ y : Pr, Cand n y → (y.1 < F ∨ y.1 = F ∧ y.2 < Q) → accP X l y → IsF n (accP X) k (l ++ [y]) none)) (fun c _ => 2 * n - (intOf c).toNat)
        case atStart => exact ⟨F + 1, by go_num, by omega, by omega, v, HS, HB, Lib.hid fun y hy h ha => HN.out y hy (by have := hy.1; omega) ha⟩
        case round =>
          clear HS HB HN
          obtain ⟨Q, rfl, hQ, hQ2, v, HS, HB, HN⟩ := hrel
          obtain ⟨wB, rfl⟩ : ∃ wo : World, wo = wr := ⟨_, rfl⟩
          by_cases hQ3 : Q < 2 * n
          · have hQd : (Q : Int) ≤ 2 * (n : Int) - 1 := by omega
            have hSz : S ≤ wB.heap.size := Nat.le_of_lt HS.out.2.1
            have HA := Lib.hid (HS.out.alloc (.cells #[.int .i64 (F : Int), .int .i64 (Q : Int)] 23))
            have HX2 := Lib.hid (Two.new wB (F : Int) (Q : Int) 23)
            have HB2 := Lib.hid (HB.out.alloc hSz (.cells #[.int .i64 (F : Int), .int .i64 (Q : Int)] 23))
            by_cases hacc : accP X l (F, Q)
            · have HACC := Lib.hid hacc
              have hd : decide (accP X l (F, Q)) = true := decide_eq_true hacc
              have HD := Lib.hid hd
              clear hacc hd
              go_wp2_with fail
              refine (fits_any S O n R cp X v l (F, Q) _ (by omega) HX.out (by rw [HM.out]; omega) HV.out (by show F < Q; omega) HA.out).mono ?_; rintro e w2 ⟨rfl, hb2⟩
              rw [HD.out]
              have hS2 := HA.out.call hb2
              obtain ⟨x0, x1, x2⟩ := HX2.out.call hb2
              have HS2 := Lib.hid hS2
              have HB3 := Lib.hid (HB2.out.trans (hb2.mono (by simp; omega)))
              obtain ⟨_, y1, _, y3, y4, y5⟩ := hS2
              have HO := Lib.hid y5
              clear hb2 y5
              obtain ⟨i0, hi0, hz0, hz1, hz2⟩ := info_parts span_info
              have HI := Lib.hid (And.intro hi0 (And.intro hz0 (And.intro hz1 hz2)))
              clear hi0 hz0 hz1 hz2
              go_wp2_with fail
              go_region_law (refine step_append_own rfl (.tmp 49) (.tmp 51) 31 rfl (S + 1) 23 i0 (.agg #[.int .i64 0, .int .i64 0]) 2 16 Tryd.underlying31 HI.out.1 HI.out.2.1 HI.out.2.2.1 HI.out.2.2.2 rfl (by decide) v l.length (prV l) (by simp [Act.eval]) (World.ownsRow.drew (HO.out.alloc _)) ⟨w2.heap.size, 0, none⟩ 1 1 [.int .i64 (F : Int), .int .i64 (Q : Int)] (by simp [Act.eval]) rfl (cells_here w2 _ _) (by simp [Value.oneCell']) (by rw [HM.out]; unfold maxLen; omega) (by rw [HM.out]; omega) (by simp; omega) ?_; intro v' w3 hown hgrow _; obtain ⟨g2, cap2, hv2, hcap1, hcap2⟩ := hown.form (by omega); subst hv2; obtain ⟨hmore, c1, f1, hbm⟩ := HS2.out.more (x := (F, Q)) hgrow hown; have HMORE := Lib.hid hmore; have HBM := Lib.hid hbm; clear hmore hbm hown hgrow)
              all_goals
                go_wp2_with fail
                have hlen : (l ++ [(F, Q)]).length + k = n := by have := HM.out; simp; omega
                refine (IH.out (l ++ [(F, Q)]) _ _ hlen (HV.out.snoc (show F < Q by omega)) HMORE.out).mono ?_
                clear hlen
                rintro e w4 ⟨r, hr, hb4, (⟨rfl, rfl, v4, hs4⟩ | ⟨t, rfl, rfl, v4, hs4⟩)⟩
                · have hb5 := (HB3.out.trans HBM.out).trans hb4
                  obtain ⟨oa4, cap4, rfl, hl4, hc4, hg4⟩ := hs4.form
                  have e1 : (l ++ [(F, Q)]).length = l.length + 1 := by simp
                  rw [e1] at hs4 hl4
                  obtain ⟨g4, rfl, _, _, _⟩ := hg4 (by rw [e1]; omega)
                  have HL := Lib.hid hs4.less
                  have hb6 := hb5.setCell (p := ⟨S, 1, none⟩) (Nat.le_refl _) (.slice (some ⟨g4, 0, none⟩) l.length cap4)
                  obtain ⟨_, _, z5, z6, z7, _⟩ := hs4
                  rw [HM.out] at z6 hb6 hl4
                  rw [HM.out] at HL
                  have HB6 := Lib.hid hb6
                  have HR := Lib.hid hr
                  unfold maxLen at hc4
                  clear hb4 hb5 hb6 hr e1 hg4
                  go_wp2_with fail
                  all_goals go_roundw
                  case rel =>
                    refine ⟨Q + 1, by go_num, by omega, by omega, _, HL, HB6, Lib.hid fun y hy h ha => ?_⟩
                    by_cases e : y = (F, Q)
                    · subst e; exact HR.out
                    · refine HN.out y hy ?_ ha
                      obtain ⟨a, b⟩ := y
                      simp only [Prod.mk.injEq] at e
                      simp only at h ⊢
                      omega
                  case measure => simp [intOf]; omega
                · have HB5 := Lib.hid ((HB3.out.trans HBM.out).trans hb4)
                  have e2 : l ++ [(F, Q)] ++ t = l ++ (F, Q) :: t := by simp
                  rw [e2] at hs4
                  have HS4 := Lib.hid hs4
                  have HR := Lib.hid hr
                  clear hb4 hs4 hr e2
                  go_wp2_with fail
                  all_goals go_ret
                  all_goals exact ⟨some ((F, Q) :: t), .inr ⟨(F, Q), t, ⟨show F < Q by omega, show Q < 2 * n by omega⟩, rfl, HACC.out, HR.out, fun y hy hp ha => HN.out y hy hp ha⟩, HB5.out, .inr ⟨_, rfl, rfl, _, HS4.out⟩⟩
            · have HACC := Lib.hid hacc
              have hd : decide (accP X l (F, Q)) = false := decide_eq_false hacc
              have HD := Lib.hid hd
              clear hacc hd
              go_wp2_with fail
              refine (fits_any S O n R cp X v l (F, Q) _ (by omega) HX.out (by rw [HM.out]; omega) HV.out (by show F < Q; omega) HA.out).mono ?_; rintro e w2 ⟨rfl, hb2⟩
              rw [HD.out]
              have HS2 := Lib.hid (HA.out.call hb2)
              have HB3 := Lib.hid (HB2.out.trans (hb2.mono (by simp; omega)))
              clear hb2
              go_wp2_with fail
              go_roundw
              case rel =>
                refine ⟨Q + 1, by go_num, by omega, by omega, v, HS2, HB3, Lib.hid fun y hy h ha => ?_⟩
                by_cases e : y = (F, Q)
                · subst e; exact absurd ha HACC.out
                · refine HN.out y hy ?_ ha
                  obtain ⟨a, b⟩ := y
                  simp only [Prod.mk.injEq] at e
                  simp only at h ⊢
                  omega
              case measure => simp [intOf]; omega
          · have hQd : ¬ (Q : Int) ≤ 2 * (n : Int) - 1 := by omega
            obtain rfl : Q = 2 * n := by omega
            go_wp2_with fail
            go_roundw
            case rel =>
              refine ⟨F + 1, by go_num, by omega, v, HS, HB, Lib.hid fun y hy h ha => HN.out y hy ?_ ha⟩
              have := hy.2
              omega
            case measure => simp [intOf]; omega
      · have hFd : decide ((F : Int) < 2 * (n : Int) - 1) = false := by simp; omega
        go_wp2_with fail
        go_ret
        refine ⟨none, .inl ⟨rfl, fun y hy ha => HN.out y hy (by have := hy.1; have := hy.2; omega) ha⟩, HB.out, .inl ⟨rfl, rfl, _, HS.out⟩⟩
end Go.Proofs.YtpmppgmnnnlonaaDoor
