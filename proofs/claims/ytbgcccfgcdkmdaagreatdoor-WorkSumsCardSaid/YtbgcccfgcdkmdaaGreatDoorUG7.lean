/- Where a holiday goes: the document's. The document's put. The document's put into a list that may be nil. -/
import Derived.Test.YtbgcccfgcdkmdaaGreatDoorWrkE
import Derived.Test.YtbgcccfgcdkmdaaGreatDoorDaysR
import Derived.Test.YtbgcccfgcdkmdaaGreatDoorWrkF
import Derived.Test.YtbgcccfgcdkmdaaGreatDoorDaysH
import Derived.Laws.AppendOwnNone
namespace Go.Proofs.YtbgcccfgcdkmdaaGreatDoor
open Go.RowKit Wrk
set_option maxRecDepth 100000 in
set_option maxHeartbeats 4000000 in
theorem goes_any (d how : Int) (w : World) (h1 : -5000000 ≤ d) (h2 : d ≤ 5000000) : Calls Tryz.prog 42 #[.int .i64 d, .int .i64 how] w fun e w' => e = .returned (.int .i64 (mv how d)) ∧ w = w' := by
  obtain ⟨r, hr⟩ : ∃ r, mv how d = r := ⟨_, rfl⟩
  rw [hr]
  unfold mv at hr
  have CW : Hid (∀ n w0, Calls Tryz.prog 54 #[.int .i64 n] w0 fun e w' => e = .returned (.int .i64 (Dm.wd n)) ∧ w0 = w') := Lib.hid fun n w0 => refWeekday_any n w0
  have hb := Dm.wd_bd d
  have CU := Lib.hid (fun w0 => CW.out d w0)
  obtain ⟨u, hu⟩ : ∃ u, Dm.wd d = u := ⟨_, rfl⟩
  rw [hu] at hr hb CU
  have HR := Lib.hid hr
  have HU := Lib.hid hu
  clear hr hu
  by_cases c1 : u < 6
  · have e : r = d := HR.out.symm.trans (if_pos (.inr c1))
    subst e
    go_enter Tryz.func42, Tryz.ntmps42
    go_wp2_with (go_at_call 54; refine (CU.out _).mono ?_; rintro e w2 ⟨rfl, rfl⟩)
    go_ret
    exact ⟨rfl, rfl⟩
  · by_cases c0 : how = 0
    · subst c0
      have e : r = d := HR.out.symm.trans (if_pos (.inl rfl))
      subst e
      go_enter Tryz.func42, Tryz.ntmps42
      go_wp2_with (go_at_call 54; refine (CU.out _).mono ?_; rintro e w2 ⟨rfl, rfl⟩)
      go_ret
      exact ⟨rfl, rfl⟩
    · have b0 : (how == 0) = false := beq_eq_false_iff_ne.2 c0
      have HR1 := Lib.hid (HR.out.symm.trans (if_neg (by omega)))
      by_cases c2 : how = 2 ∧ u = 6
      · obtain ⟨rfl, rfl⟩ := c2
        have hw1 : wrap64 (d - 1) = d - 1 := wrap_in (InI.mk (by omega) (by omega))
        have e : r = d - 1 := HR1.out.trans (if_pos ⟨rfl, rfl⟩)
        subst e
        go_enter Tryz.func42, Tryz.ntmps42
        go_wp2_with (go_at_call 54; refine (CU.out _).mono ?_; rintro e w2 ⟨rfl, rfl⟩)
        go_ret
        exact ⟨rfl, rfl⟩
      · have e : r = d + 8 - u := HR1.out.trans (if_neg c2)
        have ht : (decide (how = 2) && decide (u = 6)) = false := by
          rw [Bool.and_eq_false_iff]
          by_cases g : how = 2
          · right; simp; exact fun g2 => c2 ⟨g, g2⟩
          · left; simp [g]
        have HE : Hid (r = d + 8 - u) := Lib.hid e
        have HW : Hid (∀ z, d ≤ z → z ≤ r → (Dm.wd z = 1 ↔ z = r)) := Lib.hid (by
          intro z z1 z2
          have := HU.out
          have := HE.out
          unfold Dm.wd at *
          omega)
        have hdr : d ≤ r ∧ r ≤ d + 2 := by omega
        clear e c2
        by_cases g : how = 2
        · subst g
          have g6 : ¬ u = 6 := by simpa using ht
          have b6 : (u == 6) = false := beq_eq_false_iff_ne.2 g6
          clear ht
          go_enter Tryz.func42, Tryz.ntmps42
          go_wp2_with (go_at_call 54; refine (CU.out _).mono ?_; rintro e w2 ⟨rfl, rfl⟩)
          go_loopw [0] (fun c wr => ∃ z : Int, c = .int .i64 z ∧ d ≤ z ∧ z ≤ r ∧ w = wr) (fun c _ => (r - intOf c).toNat)
          case atStart => exact ⟨d, rfl, by omega, by omega, rfl⟩
          case round =>
            obtain ⟨z, rfl, z1, z2, rfl⟩ := hrel
            have CZ := Lib.hid (CW.out z w)
            have hz := HW.out z z1 z2
            obtain ⟨q, hq⟩ : ∃ q, Dm.wd z = q := ⟨_, rfl⟩
            rw [hq] at CZ hz
            clear hq
            by_cases hq1 : q = 1
            · have hzr := hz.1 hq1
              subst hzr
              subst hq1
              clear hz
              go_wp2_with (go_at_call 54; refine (CZ.out).mono ?_; rintro e w2 ⟨rfl, rfl⟩)
              go_ret
              exact ⟨rfl, rfl⟩
            · have hzr : z < r := by
                rcases Int.lt_or_eq_of_le z2 with h | h
                · exact h
                · exact absurd (hz.2 h) hq1
              have bq : (q == 1) = false := beq_eq_false_iff_ne.2 hq1
              have hw2 : wrap64 (z + 1) = z + 1 := wrap_in (InI.mk (by omega) (by omega))
              clear hz
              go_wp2_with (go_at_call 54; refine (CZ.out).mono ?_; rintro e w2 ⟨rfl, rfl⟩)
              go_roundw
              case rel => exact ⟨z + 1, rfl, by omega, by omega, trivial⟩
              case measure => simp [intOf]; omega
        · have b2 : (how == 2) = false := beq_eq_false_iff_ne.2 g
          clear ht
          go_enter Tryz.func42, Tryz.ntmps42
          go_wp2_with (go_at_call 54; refine (CU.out _).mono ?_; rintro e w2 ⟨rfl, rfl⟩)
          go_loopw [0] (fun c wr => ∃ z : Int, c = .int .i64 z ∧ d ≤ z ∧ z ≤ r ∧ w = wr) (fun c _ => (r - intOf c).toNat)
          case atStart => exact ⟨d, rfl, by omega, by omega, rfl⟩
          case round =>
            obtain ⟨z, rfl, z1, z2, rfl⟩ := hrel
            have CZ := Lib.hid (CW.out z w)
            have hz := HW.out z z1 z2
            obtain ⟨q, hq⟩ : ∃ q, Dm.wd z = q := ⟨_, rfl⟩
            rw [hq] at CZ hz
            clear hq
            by_cases hq1 : q = 1
            · have hzr := hz.1 hq1
              subst hzr
              subst hq1
              clear hz
              go_wp2_with (go_at_call 54; refine (CZ.out).mono ?_; rintro e w2 ⟨rfl, rfl⟩)
              go_ret
              exact ⟨rfl, rfl⟩
            · have hzr : z < r := by
                rcases Int.lt_or_eq_of_le z2 with h | h
                · exact h
                · exact absurd (hz.2 h) hq1
              have bq : (q == 1) = false := beq_eq_false_iff_ne.2 hq1
              have hw2 : wrap64 (z + 1) = z + 1 := wrap_in (InI.mk (by omega) (by omega))
              clear hz
              go_wp2_with (go_at_call 54; refine (CZ.out).mono ?_; rintro e w2 ⟨rfl, rfl⟩)
              go_roundw
              case rel => exact ⟨z + 1, rfl, by omega, by omega, trivial⟩
              case measure => simp [intOf]; omega
end Go.Proofs.YtbgcccfgcdkmdaaGreatDoor
namespace Go.Proofs.YtbgcccfgcdkmdaaGreatDoor
open Go.RowKit Wrk
namespace Wrk
theorem put_at (x : Int) : ∀ (l : List Int) (i : Nat), i ≤ l.length → (∀ j, j < i → l.getD j 0 < x) → (i < l.length → ¬ l.getD i 0 < x) → put l x = if i < l.length ∧ l.getD i 0 = x then l else l.take i ++ x :: l.drop i
  | [], i, h1, _, _ => by
    have : i = 0 := by simpa using h1
    subst this
    simp [put]
  | a :: r, 0, _, _, h3 => by
    have h4 : ¬ a < x := by simpa using h3 (by simp)
    unfold put
    rw [if_neg h4]
    simp
  | a :: r, i + 1, h1, h2, h3 => by
    have h4 : a < x := by simpa using h2 0 (by omega)
    have ih := put_at x r i (by simpa using h1) (fun j hj => by simpa using h2 (j + 1) (by omega)) (fun h => by simpa using h3 (by simpa using h))
    unfold put
    rw [if_pos h4, ih]
    simp only [List.length_cons, List.getD_cons_succ, List.take_succ_cons, List.drop_succ_cons, Nat.add_lt_add_iff_right]
    split <;> simp
end Wrk
set_option maxRecDepth 100000 in
set_option maxHeartbeats 16000000 in
theorem put_some (g cap : Nat) (b0 : Nat) (l : List Int) (x : Int) (n : Nat) (w : World) (hn : l.length = n) (h : IntL w b0 (.slice (some ⟨g, 0, none⟩) n cap) l) (hl : n ≤ 100000) (hb0 : b0 ≤ w.heap.size) :
    Calls Tryz.prog 41 #[.slice (some ⟨g, 0, none⟩) n cap, .int .i64 x] w fun e w' => ∃ v', e = .returned v' ∧ IntL w' b0 v' (put l x) ∧ Below w.heap.size w w' := by
  obtain ⟨i0, hi0, hz0, hz1, hz2⟩ := info_parts Tryz.info3
  have H := Lib.hid h
  have HN := Lib.hid hn
  have hnc : (n : Int) ≤ (cap : Int) := by
    rcases h.2 with ⟨h2, -⟩ | ⟨g', c', cur, h3, h4, h5, h6, h7⟩
    · cases h2
    · cases h3; omega
  clear h hn
  go_enter Tryz.func41, Tryz.ntmps41
  go_wp2_with fail
  go_loopw [5] (fun c wr => ∃ i : Nat, c = .int .i64 (i : Int) ∧ i ≤ n ∧ w = wr ∧ Hid (∀ j, j < i → l.getD j 0 < x)) (fun c _ => n - (intOf c).toNat)
  case atStart => exact ⟨0, rfl, by omega, rfl, Lib.hid (fun j hj => by omega)⟩
  case round =>
    obtain ⟨i, rfl, hi, rfl, HL⟩ := hrel
    have k1 : (0 : Int) ≤ (i : Int) := by omega
    by_cases hin : i < n
    · obtain ⟨g', e, -, hg, hc, -⟩ := H.out.at (k := i) (by rw [HN.out]; exact hin)
      cases e
      have HPA := Lib.hid (fun h => put_at x l i (by rw [HN.out]; exact hi) HL.out h)
      obtain ⟨d, hd⟩ : ∃ d, l.getD i 0 = d := ⟨_, rfl⟩
      rw [hd] at hc HPA
      have HD := Lib.hid hd
      have k2 : (i : Int) < (n : Int) := by omega
      clear hd
      by_cases hlt : d < x
      · have HL2 : Hid (∀ j, j < i + 1 → l.getD j 0 < x) := Lib.hid (fun j hj => by
          by_cases hji : j = i
          · rw [hji, HD.out]; exact hlt
          · exact HL.out j (by omega))
        clear hg HPA
        go_wp2_with fail
        go_roundw
        case rel => exact ⟨i + 1, by go_num, by omega, trivial, HL2⟩
        case measure => simp [intOf]; omega
      · have HPB := Lib.hid (HPA.out (fun _ => hlt))
        by_cases heq : d = x
        · subst heq
          have HR : Hid (put l d = l) := Lib.hid (HPB.out.trans (if_pos ⟨by rw [HN.out]; exact hin, rfl⟩))
          clear hg HPA HPB
          go_wp2_with fail
          go_ret
          rw [HR.out]
          exact ⟨_, rfl, H.out, Below.refl _ _⟩
        · have HR : Hid (put l x = l.take i ++ x :: l.drop i) := Lib.hid (HPB.out.trans (if_neg (fun e => heq e.2)))
          have bne : (d == x) = false := beq_eq_false_iff_ne.2 heq
          clear hg HPA HPB
          go_upto_region 6 with fail
          have hgl := (H.out.lt g rfl).2
          have hcell : ∀ j, j < n → w.cell? ⟨g, j, none⟩ = some (.int .i64 (l.getD j 0)) := fun j hj => by
            obtain ⟨g', e, -, -, hc, -⟩ := H.out.at (k := j) (by rw [HN.out]; exact hj)
            cases e
            exact hc
          have HG := Lib.hid hgl
          have HL1 : Hid ((intV (l.take i)).length = i * 1) := Lib.hid (by unfold intV; rw [List.length_map, List.length_take, HN.out]; omega)
          have HL3 : Hid ((intV (l.drop i)).length = (n - i) * 1) := Lib.hid (by unfold intV; rw [List.length_map, List.length_drop, HN.out]; omega)
          have HO1 : Hid (∀ u ∈ intV (l.take i), u.oneCell' = true) := Lib.hid (fun u hu => by obtain ⟨z, _, rfl⟩ := List.mem_map.1 hu; rfl)
          have HO3 : Hid (∀ u ∈ intV (l.drop i), u.oneCell' = true) := Lib.hid (fun u hu => by obtain ⟨z, _, rfl⟩ := List.mem_map.1 hu; rfl)
          have HC1 : Hid (∀ j u, (intV (l.take i))[j]? = some u → w.cell? ⟨g, 0 + j, none⟩ = some u) := Lib.hid (fun j u hj => by
            have hj1 : j < i := by
              have := (List.getElem?_eq_some_iff.1 hj).1
              rw [HL1.out] at this; omega
            rw [Nat.zero_add, hcell j (by omega)]
            unfold intV at hj
            rw [List.getElem?_map, List.getElem?_take_of_lt hj1, List.getElem?_eq_getElem (by rw [HN.out]; omega)] at hj
            rw [← hj, List.getD_eq_getElem?_getD, List.getElem?_eq_getElem (by rw [HN.out]; omega)]
            rfl)
          have HC3 : Hid (∀ j u, (intV (l.drop i))[j]? = some u → w.cell? ⟨g, i + j, none⟩ = some u) := Lib.hid (fun j u hj => by
            have hj1 : j < n - i := by
              have := (List.getElem?_eq_some_iff.1 hj).1
              rw [HL3.out] at this; omega
            rw [hcell (i + j) (by omega)]
            unfold intV at hj
            rw [List.getElem?_map, List.getElem?_drop, List.getElem?_eq_getElem (by rw [HN.out]; omega)] at hj
            rw [← hj, List.getD_eq_getElem?_getD, List.getElem?_eq_getElem (by rw [HN.out]; omega)]
            rfl)
          have HF : Hid (∀ (w3 : World) (v3 : Value), w3.ownsRow w.heap.size 3 1 v3 (0 + i + 1 + (n - i)) ([] ++ intV (l.take i) ++ [.int .i64 x] ++ intV (l.drop i)) → IntL w3 b0 v3 (put l x)) := Lib.hid (fun w3 v3 h => by
            rw [HR.out]
            refine IntL.low (c := w.heap.size) ?_ hb0
            have e1 : (l.take i ++ x :: l.drop i).length = 0 + i + 1 + (n - i) := by
              rw [List.length_append, List.length_cons, List.length_take, List.length_drop, HN.out]; omega
            have e2 : intV (l.take i ++ x :: l.drop i) = [] ++ intV (l.take i) ++ [.int .i64 x] ++ intV (l.drop i) := by simp [intV]
            unfold IntL
            rw [e1, e2]
            exact h)
          have HI := Lib.hid (And.intro hi0 (And.intro hz0 (And.intro hz1 hz2)))
          have hci : ¬ cap = i := by omega
          have q1 : (i : Int) ≤ (n : Int) := by omega
          have q2 : (i : Int) ≤ (cap : Int) := by omega
          clear hgl hcell
          go_region_law (first
              | (refine step_append_own rfl (.tmp 33) (.tmp 36) 27 rfl w.heap.size 3 i0 (.int .i64 0) 1 8 Tryz.underlying27 HI.out.1 HI.out.2.1 HI.out.2.2.1 HI.out.2.2.2 rfl (by decide) (.slice (some ⟨w.heap.size, 0, none⟩) 0 0) 0 [] (by simp [Act.eval]) ?_ ⟨g, 0, none⟩ i cap (intV (l.take i)) (by simp [Act.eval]) HL1.out ?_ HO1.out (by unfold maxLen; omega) (by omega) (by first | (simp; done) | (simp; omega)) ?_
                 · first | exact World.ownsRow.drew (own_empty _ _ _ _ (by simp)) | exact World.ownsRow.drew ((own_empty _ _ _ _ (by simp)).alloc _) | (have h := own_empty (w.alloc (.cells #[.int .i64 x] 3)) w.heap.size 3 1 (by simp); simp only [World.size_alloc] at h; exact World.ownsRow.drew h)
                 · exact cells_old (B := w.heap.size) (by repeat (first | with_reducible exact Below.refl _ _ | with_reducible exact hb1.out | with_reducible exact hb2.out | (with_reducible refine Below.drew ?_) | (with_reducible refine Below.alloc ?_ (by first | exact Nat.le_refl _ | (simp <;> omega)) _))) HG.out 0 _ HC1.out
                 intro v1 w1 hown1 hg1 _
                 have hb1 := Lib.hid (Below.grown (B := w.heap.size) (a := w) (by repeat (first | with_reducible exact Below.refl _ _ | with_reducible exact hb1.out | with_reducible exact hb2.out | (with_reducible refine Below.drew ?_) | (with_reducible refine Below.alloc ?_ (by first | exact Nat.le_refl _ | (simp <;> omega)) _))) hg1 (by first | (simp; done) | (simp; omega)) (by intro k hk; simp [Value.ownBlock] at hk; omega))
                 have hG1 := Lib.hid hg1
                 clear hg1)
              | (refine step_append_own rfl (.tmp 33) (.tmp 36) 27 rfl w.heap.size 3 i0 (.int .i64 0) 1 8 Tryz.underlying27 HI.out.1 HI.out.2.1 HI.out.2.2.1 HI.out.2.2.2 rfl (by decide) (.slice (some ⟨w.heap.size + 1, 0, none⟩) 0 0) 0 [] (by simp [Act.eval]) ?_ ⟨g, 0, none⟩ i cap (intV (l.take i)) (by simp [Act.eval]) HL1.out ?_ HO1.out (by unfold maxLen; omega) (by omega) (by first | (simp; done) | (simp; omega)) ?_
                 · first | exact World.ownsRow.drew (own_empty _ _ _ _ (by simp)) | exact World.ownsRow.drew ((own_empty _ _ _ _ (by simp)).alloc _) | (have h := own_empty (w.alloc (.cells #[.int .i64 x] 3)) w.heap.size 3 1 (by simp); simp only [World.size_alloc] at h; exact World.ownsRow.drew h)
                 · exact cells_old (B := w.heap.size) (by repeat (first | with_reducible exact Below.refl _ _ | with_reducible exact hb1.out | with_reducible exact hb2.out | (with_reducible refine Below.drew ?_) | (with_reducible refine Below.alloc ?_ (by first | exact Nat.le_refl _ | (simp <;> omega)) _))) HG.out 0 _ HC1.out
                 intro v1 w1 hown1 hg1 _
                 have hb1 := Lib.hid (Below.grown (B := w.heap.size) (a := w) (by repeat (first | with_reducible exact Below.refl _ _ | with_reducible exact hb1.out | with_reducible exact hb2.out | (with_reducible refine Below.drew ?_) | (with_reducible refine Below.alloc ?_ (by first | exact Nat.le_refl _ | (simp <;> omega)) _))) hg1 (by first | (simp; done) | (simp; omega)) (by intro k hk; simp [Value.ownBlock] at hk; omega))
                 have hG1 := Lib.hid hg1
                 clear hg1)
              | (refine step_append_own rfl (.tmp 37) (.tmp 39) 27 rfl w.heap.size 3 i0 (.int .i64 0) 1 8 Tryz.underlying27 HI.out.1 HI.out.2.1 HI.out.2.2.1 HI.out.2.2.2 rfl (by decide) v1 (0 + i) ([] ++ intV (l.take i)) (by simp [Act.eval]) ?_ ⟨w1.heap.size, 0, none⟩ 1 1 [.int .i64 x] (by simp [Act.eval]) rfl ?_ (by simp [Value.oneCell']) (by unfold maxLen; omega) (by omega) (by have := hb1.out.size; first | omega | (simp; omega)) ?_
                 · first | exact hown1 | exact hown1.alloc _
                 · exact cells_here _ [.int .i64 x] 3
                 intro v2 w2 hown2 hg2 _
                 have hb2 := Lib.hid (Below.grown (B := w.heap.size) (a := w) (by first | exact hb1.out | exact hb1.out.alloc hb1.out.size _) hg2 (by have := hb1.out.size; first | omega | (simp; omega)) (fun k hk => (hown1.lt k hk).1))
                 clear hg2)
              | (refine step_append_own rfl (.tmp 37) (.tmp 39) 27 rfl w.heap.size 3 i0 (.int .i64 0) 1 8 Tryz.underlying27 HI.out.1 HI.out.2.1 HI.out.2.2.1 HI.out.2.2.2 rfl (by decide) v1 (0 + i) ([] ++ intV (l.take i)) (by simp [Act.eval]) ?_ ⟨w.heap.size + 1, 0, none⟩ 1 1 [.int .i64 x] (by simp [Act.eval]) rfl ?_ (by simp [Value.oneCell']) (by unfold maxLen; omega) (by omega) (by have := hb1.out.size; first | omega | (simp; omega)) ?_
                 · first | exact hown1 | exact hown1.alloc _
                 · intro j u hj
                   have h := cells_here (w.alloc (.cells #[] 3)) [.int .i64 x] 3 j u hj
                   rw [Addr.add_lit] at h ⊢
                   simp only [World.size_alloc] at h
                   exact (World.cell?_of_block (hG1.out.block (w.heap.size + 1) (by simp) (by simp [Value.ownBlock]))).trans h
                 intro v2 w2 hown2 hg2 _
                 have hb2 := Lib.hid (Below.grown (B := w.heap.size) (a := w) (by first | exact hb1.out | exact hb1.out.alloc hb1.out.size _) hg2 (by have := hb1.out.size; first | omega | (simp; omega)) (fun k hk => (hown1.lt k hk).1))
                 clear hg2)
              | (refine step_append_own rfl (.tmp 37) (.tmp 39) 27 rfl w.heap.size 3 i0 (.int .i64 0) 1 8 Tryz.underlying27 HI.out.1 HI.out.2.1 HI.out.2.2.1 HI.out.2.2.2 rfl (by decide) v1 (0 + i) ([] ++ intV (l.take i)) (by simp [Act.eval]) ?_ ⟨w.heap.size, 0, none⟩ 1 1 [.int .i64 x] (by simp [Act.eval]) rfl ?_ (by simp [Value.oneCell']) (by unfold maxLen; omega) (by omega) (by have := hb1.out.size; first | omega | (simp; omega)) ?_
                 · first | exact hown1 | exact hown1.alloc _
                 · intro j u hj
                   have h := cells_here w [.int .i64 x] 3 j u hj
                   rw [Addr.add_lit] at h ⊢
                   exact (World.cell?_of_block (hG1.out.block w.heap.size (by simp <;> omega) (by simp [Value.ownBlock]))).trans ((cell_alloc (by simp)).trans h)
                 intro v2 w2 hown2 hg2 _
                 have hb2 := Lib.hid (Below.grown (B := w.heap.size) (a := w) (by first | exact hb1.out | exact hb1.out.alloc hb1.out.size _) hg2 (by have := hb1.out.size; first | omega | (simp; omega)) (fun k hk => (hown1.lt k hk).1))
                 clear hg2)
              | (refine step_append_own rfl (.tmp 40) (.tmp 43) 27 rfl w.heap.size 3 i0 (.int .i64 0) 1 8 Tryz.underlying27 HI.out.1 HI.out.2.1 HI.out.2.2.1 HI.out.2.2.2 rfl (by decide) v2 (0 + i + 1) _ (by simp [Act.eval]) hown2 ⟨g, i, none⟩ (n - i) (cap - i) (intV (l.drop i)) (by simp [Act.eval]) HL3.out ?_ HO3.out (by unfold maxLen; omega) (by omega) hb2.out.size ?_
                 · exact cells_old (B := w.heap.size) hb2.out HG.out i _ HC3.out
                 intro v3 w3 hown3 hg3 _
                 have hb3 := Lib.hid (Below.grown (B := w.heap.size) (a := w) hb2.out hg3 hb2.out.size (fun k hk => (hown2.lt k hk).1))
                 clear hg3))
          all_goals go_wp2_with fail
          all_goals go_ret
          all_goals
            exact ⟨_, rfl, HF.out _ _ hown3, hb3.out⟩
    · have hin2 : i = n := by omega
      have HR : Hid (put l x = l.take i ++ x :: l.drop i) := Lib.hid ((put_at x l i (by rw [HN.out]; exact hi) HL.out (fun h => by rw [HN.out] at h; omega)).trans (if_neg (fun e => by rw [HN.out] at e; omega)))
      clear hin2
      go_upto_region 6 with fail
      have hgl := (H.out.lt g rfl).2
      have hcell : ∀ j, j < n → w.cell? ⟨g, j, none⟩ = some (.int .i64 (l.getD j 0)) := fun j hj => by
        obtain ⟨g', e, -, -, hc, -⟩ := H.out.at (k := j) (by rw [HN.out]; exact hj)
        cases e
        exact hc
      have HG := Lib.hid hgl
      have HL1 : Hid ((intV (l.take i)).length = i * 1) := Lib.hid (by unfold intV; rw [List.length_map, List.length_take, HN.out]; omega)
      have HL3 : Hid ((intV (l.drop i)).length = (n - i) * 1) := Lib.hid (by unfold intV; rw [List.length_map, List.length_drop, HN.out]; omega)
      have HO1 : Hid (∀ u ∈ intV (l.take i), u.oneCell' = true) := Lib.hid (fun u hu => by obtain ⟨z, _, rfl⟩ := List.mem_map.1 hu; rfl)
      have HO3 : Hid (∀ u ∈ intV (l.drop i), u.oneCell' = true) := Lib.hid (fun u hu => by obtain ⟨z, _, rfl⟩ := List.mem_map.1 hu; rfl)
      have HC1 : Hid (∀ j u, (intV (l.take i))[j]? = some u → w.cell? ⟨g, 0 + j, none⟩ = some u) := Lib.hid (fun j u hj => by
        have hj1 : j < i := by
          have := (List.getElem?_eq_some_iff.1 hj).1
          rw [HL1.out] at this; omega
        rw [Nat.zero_add, hcell j (by omega)]
        unfold intV at hj
        rw [List.getElem?_map, List.getElem?_take_of_lt hj1, List.getElem?_eq_getElem (by rw [HN.out]; omega)] at hj
        rw [← hj, List.getD_eq_getElem?_getD, List.getElem?_eq_getElem (by rw [HN.out]; omega)]
        rfl)
      have HC3 : Hid (∀ j u, (intV (l.drop i))[j]? = some u → w.cell? ⟨g, i + j, none⟩ = some u) := Lib.hid (fun j u hj => by
        have hj1 : j < n - i := by
          have := (List.getElem?_eq_some_iff.1 hj).1
          rw [HL3.out] at this; omega
        rw [hcell (i + j) (by omega)]
        unfold intV at hj
        rw [List.getElem?_map, List.getElem?_drop, List.getElem?_eq_getElem (by rw [HN.out]; omega)] at hj
        rw [← hj, List.getD_eq_getElem?_getD, List.getElem?_eq_getElem (by rw [HN.out]; omega)]
        rfl)
      have HF : Hid (∀ (w3 : World) (v3 : Value), w3.ownsRow w.heap.size 3 1 v3 (0 + i + 1 + (n - i)) ([] ++ intV (l.take i) ++ [.int .i64 x] ++ intV (l.drop i)) → IntL w3 b0 v3 (put l x)) := Lib.hid (fun w3 v3 h => by
        rw [HR.out]
        refine IntL.low (c := w.heap.size) ?_ hb0
        have e1 : (l.take i ++ x :: l.drop i).length = 0 + i + 1 + (n - i) := by
          rw [List.length_append, List.length_cons, List.length_take, List.length_drop, HN.out]; omega
        have e2 : intV (l.take i ++ x :: l.drop i) = [] ++ intV (l.take i) ++ [.int .i64 x] ++ intV (l.drop i) := by simp [intV]
        unfold IntL
        rw [e1, e2]
        exact h)
      have HI := Lib.hid (And.intro hi0 (And.intro hz0 (And.intro hz1 hz2)))
      by_cases hci : cap = i
      · have HC0 : Hid (∀ j u, (intV (l.drop i))[j]? = some u → w.cell? ⟨g, 0 + j, none⟩ = some u) := Lib.hid (fun j u hj => by
          have := (List.getElem?_eq_some_iff.1 hj).1
          rw [HL3.out] at this; omega)
        have HCI := Lib.hid hci
        clear hci
        have q1 : (i : Int) ≤ (n : Int) := by omega
        have q2 : (i : Int) ≤ (cap : Int) := by omega
        clear hgl hcell
        go_region_law (first
            | (refine step_append_own rfl (.tmp 33) (.tmp 36) 27 rfl w.heap.size 3 i0 (.int .i64 0) 1 8 Tryz.underlying27 HI.out.1 HI.out.2.1 HI.out.2.2.1 HI.out.2.2.2 rfl (by decide) (.slice (some ⟨w.heap.size, 0, none⟩) 0 0) 0 [] (by simp [Act.eval]) ?_ ⟨g, 0, none⟩ i cap (intV (l.take i)) (by simp [Act.eval]) HL1.out ?_ HO1.out (by unfold maxLen; omega) (by omega) (by first | (simp; done) | (simp; omega)) ?_
               · first | exact World.ownsRow.drew (own_empty _ _ _ _ (by simp)) | exact World.ownsRow.drew ((own_empty _ _ _ _ (by simp)).alloc _) | (have h := own_empty (w.alloc (.cells #[.int .i64 x] 3)) w.heap.size 3 1 (by simp); simp only [World.size_alloc] at h; exact World.ownsRow.drew h)
               · exact cells_old (B := w.heap.size) (by repeat (first | with_reducible exact Below.refl _ _ | with_reducible exact hb1.out | with_reducible exact hb2.out | (with_reducible refine Below.drew ?_) | (with_reducible refine Below.alloc ?_ (by first | exact Nat.le_refl _ | (simp <;> omega)) _))) HG.out 0 _ HC1.out
               intro v1 w1 hown1 hg1 _
               have hb1 := Lib.hid (Below.grown (B := w.heap.size) (a := w) (by repeat (first | with_reducible exact Below.refl _ _ | with_reducible exact hb1.out | with_reducible exact hb2.out | (with_reducible refine Below.drew ?_) | (with_reducible refine Below.alloc ?_ (by first | exact Nat.le_refl _ | (simp <;> omega)) _))) hg1 (by first | (simp; done) | (simp; omega)) (by intro k hk; simp [Value.ownBlock] at hk; omega))
               have hG1 := Lib.hid hg1
               clear hg1)
            | (refine step_append_own rfl (.tmp 33) (.tmp 36) 27 rfl w.heap.size 3 i0 (.int .i64 0) 1 8 Tryz.underlying27 HI.out.1 HI.out.2.1 HI.out.2.2.1 HI.out.2.2.2 rfl (by decide) (.slice (some ⟨w.heap.size + 1, 0, none⟩) 0 0) 0 [] (by simp [Act.eval]) ?_ ⟨g, 0, none⟩ i cap (intV (l.take i)) (by simp [Act.eval]) HL1.out ?_ HO1.out (by unfold maxLen; omega) (by omega) (by first | (simp; done) | (simp; omega)) ?_
               · first | exact World.ownsRow.drew (own_empty _ _ _ _ (by simp)) | exact World.ownsRow.drew ((own_empty _ _ _ _ (by simp)).alloc _) | (have h := own_empty (w.alloc (.cells #[.int .i64 x] 3)) w.heap.size 3 1 (by simp); simp only [World.size_alloc] at h; exact World.ownsRow.drew h)
               · exact cells_old (B := w.heap.size) (by repeat (first | with_reducible exact Below.refl _ _ | with_reducible exact hb1.out | with_reducible exact hb2.out | (with_reducible refine Below.drew ?_) | (with_reducible refine Below.alloc ?_ (by first | exact Nat.le_refl _ | (simp <;> omega)) _))) HG.out 0 _ HC1.out
               intro v1 w1 hown1 hg1 _
               have hb1 := Lib.hid (Below.grown (B := w.heap.size) (a := w) (by repeat (first | with_reducible exact Below.refl _ _ | with_reducible exact hb1.out | with_reducible exact hb2.out | (with_reducible refine Below.drew ?_) | (with_reducible refine Below.alloc ?_ (by first | exact Nat.le_refl _ | (simp <;> omega)) _))) hg1 (by first | (simp; done) | (simp; omega)) (by intro k hk; simp [Value.ownBlock] at hk; omega))
               have hG1 := Lib.hid hg1
               clear hg1)
            | (refine step_append_own rfl (.tmp 37) (.tmp 39) 27 rfl w.heap.size 3 i0 (.int .i64 0) 1 8 Tryz.underlying27 HI.out.1 HI.out.2.1 HI.out.2.2.1 HI.out.2.2.2 rfl (by decide) v1 (0 + i) ([] ++ intV (l.take i)) (by simp [Act.eval]) ?_ ⟨w1.heap.size, 0, none⟩ 1 1 [.int .i64 x] (by simp [Act.eval]) rfl ?_ (by simp [Value.oneCell']) (by unfold maxLen; omega) (by omega) (by have := hb1.out.size; first | omega | (simp; omega)) ?_
               · first | exact hown1 | exact hown1.alloc _
               · exact cells_here _ [.int .i64 x] 3
               intro v2 w2 hown2 hg2 _
               have hb2 := Lib.hid (Below.grown (B := w.heap.size) (a := w) (by first | exact hb1.out | exact hb1.out.alloc hb1.out.size _) hg2 (by have := hb1.out.size; first | omega | (simp; omega)) (fun k hk => (hown1.lt k hk).1))
               clear hg2)
            | (refine step_append_own rfl (.tmp 37) (.tmp 39) 27 rfl w.heap.size 3 i0 (.int .i64 0) 1 8 Tryz.underlying27 HI.out.1 HI.out.2.1 HI.out.2.2.1 HI.out.2.2.2 rfl (by decide) v1 (0 + i) ([] ++ intV (l.take i)) (by simp [Act.eval]) ?_ ⟨w.heap.size + 1, 0, none⟩ 1 1 [.int .i64 x] (by simp [Act.eval]) rfl ?_ (by simp [Value.oneCell']) (by unfold maxLen; omega) (by omega) (by have := hb1.out.size; first | omega | (simp; omega)) ?_
               · first | exact hown1 | exact hown1.alloc _
               · intro j u hj
                 have h := cells_here (w.alloc (.cells #[] 3)) [.int .i64 x] 3 j u hj
                 rw [Addr.add_lit] at h ⊢
                 simp only [World.size_alloc] at h
                 exact (World.cell?_of_block (hG1.out.block (w.heap.size + 1) (by simp) (by simp [Value.ownBlock]))).trans h
               intro v2 w2 hown2 hg2 _
               have hb2 := Lib.hid (Below.grown (B := w.heap.size) (a := w) (by first | exact hb1.out | exact hb1.out.alloc hb1.out.size _) hg2 (by have := hb1.out.size; first | omega | (simp; omega)) (fun k hk => (hown1.lt k hk).1))
               clear hg2)
            | (refine step_append_own rfl (.tmp 37) (.tmp 39) 27 rfl w.heap.size 3 i0 (.int .i64 0) 1 8 Tryz.underlying27 HI.out.1 HI.out.2.1 HI.out.2.2.1 HI.out.2.2.2 rfl (by decide) v1 (0 + i) ([] ++ intV (l.take i)) (by simp [Act.eval]) ?_ ⟨w.heap.size, 0, none⟩ 1 1 [.int .i64 x] (by simp [Act.eval]) rfl ?_ (by simp [Value.oneCell']) (by unfold maxLen; omega) (by omega) (by have := hb1.out.size; first | omega | (simp; omega)) ?_
               · first | exact hown1 | exact hown1.alloc _
               · intro j u hj
                 have h := cells_here w [.int .i64 x] 3 j u hj
                 rw [Addr.add_lit] at h ⊢
                 exact (World.cell?_of_block (hG1.out.block w.heap.size (by simp <;> omega) (by simp [Value.ownBlock]))).trans ((cell_alloc (by simp)).trans h)
               intro v2 w2 hown2 hg2 _
               have hb2 := Lib.hid (Below.grown (B := w.heap.size) (a := w) (by first | exact hb1.out | exact hb1.out.alloc hb1.out.size _) hg2 (by have := hb1.out.size; first | omega | (simp; omega)) (fun k hk => (hown1.lt k hk).1))
               clear hg2)
            | (refine step_append_own rfl (.tmp 40) (.tmp 43) 27 rfl w.heap.size 3 i0 (.int .i64 0) 1 8 Tryz.underlying27 HI.out.1 HI.out.2.1 HI.out.2.2.1 HI.out.2.2.2 rfl (by decide) v2 (0 + i + 1) _ (by simp [Act.eval]) hown2 ⟨g, 0, none⟩ (n - i) (cap - i) (intV (l.drop i)) (by simp [Act.eval, HCI.out]) HL3.out ?_ HO3.out (by unfold maxLen; omega) (by omega) hb2.out.size ?_
               · exact cells_old (B := w.heap.size) hb2.out HG.out 0 _ HC0.out
               intro v3 w3 hown3 hg3 _
               have hb3 := Lib.hid (Below.grown (B := w.heap.size) (a := w) hb2.out hg3 hb2.out.size (fun k hk => (hown2.lt k hk).1))
               clear hg3))
        all_goals go_wp2_with fail
        all_goals go_ret
        all_goals
          exact ⟨_, rfl, HF.out _ _ hown3, hb3.out⟩
      · have q1 : (i : Int) ≤ (n : Int) := by omega
        have q2 : (i : Int) ≤ (cap : Int) := by omega
        clear hgl hcell
        go_region_law (first
            | (refine step_append_own rfl (.tmp 33) (.tmp 36) 27 rfl w.heap.size 3 i0 (.int .i64 0) 1 8 Tryz.underlying27 HI.out.1 HI.out.2.1 HI.out.2.2.1 HI.out.2.2.2 rfl (by decide) (.slice (some ⟨w.heap.size, 0, none⟩) 0 0) 0 [] (by simp [Act.eval]) ?_ ⟨g, 0, none⟩ i cap (intV (l.take i)) (by simp [Act.eval]) HL1.out ?_ HO1.out (by unfold maxLen; omega) (by omega) (by first | (simp; done) | (simp; omega)) ?_
               · first | exact World.ownsRow.drew (own_empty _ _ _ _ (by simp)) | exact World.ownsRow.drew ((own_empty _ _ _ _ (by simp)).alloc _) | (have h := own_empty (w.alloc (.cells #[.int .i64 x] 3)) w.heap.size 3 1 (by simp); simp only [World.size_alloc] at h; exact World.ownsRow.drew h)
               · exact cells_old (B := w.heap.size) (by repeat (first | with_reducible exact Below.refl _ _ | with_reducible exact hb1.out | with_reducible exact hb2.out | (with_reducible refine Below.drew ?_) | (with_reducible refine Below.alloc ?_ (by first | exact Nat.le_refl _ | (simp <;> omega)) _))) HG.out 0 _ HC1.out
               intro v1 w1 hown1 hg1 _
               have hb1 := Lib.hid (Below.grown (B := w.heap.size) (a := w) (by repeat (first | with_reducible exact Below.refl _ _ | with_reducible exact hb1.out | with_reducible exact hb2.out | (with_reducible refine Below.drew ?_) | (with_reducible refine Below.alloc ?_ (by first | exact Nat.le_refl _ | (simp <;> omega)) _))) hg1 (by first | (simp; done) | (simp; omega)) (by intro k hk; simp [Value.ownBlock] at hk; omega))
               have hG1 := Lib.hid hg1
               clear hg1)
            | (refine step_append_own rfl (.tmp 33) (.tmp 36) 27 rfl w.heap.size 3 i0 (.int .i64 0) 1 8 Tryz.underlying27 HI.out.1 HI.out.2.1 HI.out.2.2.1 HI.out.2.2.2 rfl (by decide) (.slice (some ⟨w.heap.size + 1, 0, none⟩) 0 0) 0 [] (by simp [Act.eval]) ?_ ⟨g, 0, none⟩ i cap (intV (l.take i)) (by simp [Act.eval]) HL1.out ?_ HO1.out (by unfold maxLen; omega) (by omega) (by first | (simp; done) | (simp; omega)) ?_
               · first | exact World.ownsRow.drew (own_empty _ _ _ _ (by simp)) | exact World.ownsRow.drew ((own_empty _ _ _ _ (by simp)).alloc _) | (have h := own_empty (w.alloc (.cells #[.int .i64 x] 3)) w.heap.size 3 1 (by simp); simp only [World.size_alloc] at h; exact World.ownsRow.drew h)
               · exact cells_old (B := w.heap.size) (by repeat (first | with_reducible exact Below.refl _ _ | with_reducible exact hb1.out | with_reducible exact hb2.out | (with_reducible refine Below.drew ?_) | (with_reducible refine Below.alloc ?_ (by first | exact Nat.le_refl _ | (simp <;> omega)) _))) HG.out 0 _ HC1.out
               intro v1 w1 hown1 hg1 _
               have hb1 := Lib.hid (Below.grown (B := w.heap.size) (a := w) (by repeat (first | with_reducible exact Below.refl _ _ | with_reducible exact hb1.out | with_reducible exact hb2.out | (with_reducible refine Below.drew ?_) | (with_reducible refine Below.alloc ?_ (by first | exact Nat.le_refl _ | (simp <;> omega)) _))) hg1 (by first | (simp; done) | (simp; omega)) (by intro k hk; simp [Value.ownBlock] at hk; omega))
               have hG1 := Lib.hid hg1
               clear hg1)
            | (refine step_append_own rfl (.tmp 37) (.tmp 39) 27 rfl w.heap.size 3 i0 (.int .i64 0) 1 8 Tryz.underlying27 HI.out.1 HI.out.2.1 HI.out.2.2.1 HI.out.2.2.2 rfl (by decide) v1 (0 + i) ([] ++ intV (l.take i)) (by simp [Act.eval]) ?_ ⟨w1.heap.size, 0, none⟩ 1 1 [.int .i64 x] (by simp [Act.eval]) rfl ?_ (by simp [Value.oneCell']) (by unfold maxLen; omega) (by omega) (by have := hb1.out.size; first | omega | (simp; omega)) ?_
               · first | exact hown1 | exact hown1.alloc _
               · exact cells_here _ [.int .i64 x] 3
               intro v2 w2 hown2 hg2 _
               have hb2 := Lib.hid (Below.grown (B := w.heap.size) (a := w) (by first | exact hb1.out | exact hb1.out.alloc hb1.out.size _) hg2 (by have := hb1.out.size; first | omega | (simp; omega)) (fun k hk => (hown1.lt k hk).1))
               clear hg2)
            | (refine step_append_own rfl (.tmp 37) (.tmp 39) 27 rfl w.heap.size 3 i0 (.int .i64 0) 1 8 Tryz.underlying27 HI.out.1 HI.out.2.1 HI.out.2.2.1 HI.out.2.2.2 rfl (by decide) v1 (0 + i) ([] ++ intV (l.take i)) (by simp [Act.eval]) ?_ ⟨w.heap.size + 1, 0, none⟩ 1 1 [.int .i64 x] (by simp [Act.eval]) rfl ?_ (by simp [Value.oneCell']) (by unfold maxLen; omega) (by omega) (by have := hb1.out.size; first | omega | (simp; omega)) ?_
               · first | exact hown1 | exact hown1.alloc _
               · intro j u hj
                 have h := cells_here (w.alloc (.cells #[] 3)) [.int .i64 x] 3 j u hj
                 rw [Addr.add_lit] at h ⊢
                 simp only [World.size_alloc] at h
                 exact (World.cell?_of_block (hG1.out.block (w.heap.size + 1) (by simp) (by simp [Value.ownBlock]))).trans h
               intro v2 w2 hown2 hg2 _
               have hb2 := Lib.hid (Below.grown (B := w.heap.size) (a := w) (by first | exact hb1.out | exact hb1.out.alloc hb1.out.size _) hg2 (by have := hb1.out.size; first | omega | (simp; omega)) (fun k hk => (hown1.lt k hk).1))
               clear hg2)
            | (refine step_append_own rfl (.tmp 37) (.tmp 39) 27 rfl w.heap.size 3 i0 (.int .i64 0) 1 8 Tryz.underlying27 HI.out.1 HI.out.2.1 HI.out.2.2.1 HI.out.2.2.2 rfl (by decide) v1 (0 + i) ([] ++ intV (l.take i)) (by simp [Act.eval]) ?_ ⟨w.heap.size, 0, none⟩ 1 1 [.int .i64 x] (by simp [Act.eval]) rfl ?_ (by simp [Value.oneCell']) (by unfold maxLen; omega) (by omega) (by have := hb1.out.size; first | omega | (simp; omega)) ?_
               · first | exact hown1 | exact hown1.alloc _
               · intro j u hj
                 have h := cells_here w [.int .i64 x] 3 j u hj
                 rw [Addr.add_lit] at h ⊢
                 exact (World.cell?_of_block (hG1.out.block w.heap.size (by simp <;> omega) (by simp [Value.ownBlock]))).trans ((cell_alloc (by simp)).trans h)
               intro v2 w2 hown2 hg2 _
               have hb2 := Lib.hid (Below.grown (B := w.heap.size) (a := w) (by first | exact hb1.out | exact hb1.out.alloc hb1.out.size _) hg2 (by have := hb1.out.size; first | omega | (simp; omega)) (fun k hk => (hown1.lt k hk).1))
               clear hg2)
            | (refine step_append_own rfl (.tmp 40) (.tmp 43) 27 rfl w.heap.size 3 i0 (.int .i64 0) 1 8 Tryz.underlying27 HI.out.1 HI.out.2.1 HI.out.2.2.1 HI.out.2.2.2 rfl (by decide) v2 (0 + i + 1) _ (by simp [Act.eval]) hown2 ⟨g, i, none⟩ (n - i) (cap - i) (intV (l.drop i)) (by simp [Act.eval]) HL3.out ?_ HO3.out (by unfold maxLen; omega) (by omega) hb2.out.size ?_
               · exact cells_old (B := w.heap.size) hb2.out HG.out i _ HC3.out
               intro v3 w3 hown3 hg3 _
               have hb3 := Lib.hid (Below.grown (B := w.heap.size) (a := w) hb2.out hg3 hb2.out.size (fun k hk => (hown2.lt k hk).1))
               clear hg3))
        all_goals go_wp2_with fail
        all_goals go_ret
        all_goals
          exact ⟨_, rfl, HF.out _ _ hown3, hb3.out⟩
end Go.Proofs.YtbgcccfgcdkmdaaGreatDoor
namespace Go.Proofs.YtbgcccfgcdkmdaaGreatDoor
open Go.RowKit Wrk
theorem step_append_none {P : Program} {ops : Array Oper} {o : Oper} {a : Act} {w : World} {K : Act → World → Prop} {Q : Exit → Act → World → Prop} {E : Prop}
    (hg : o.guard = none) (s x : Operand) (t : TypeId) (hop : o.op = Op.call { callee := Callee.builtin Builtin.append, args := #[s, x], argTypes := #[t, t] })
    (base : Nat) (e : TypeId) (i : TypeInfo) (size : Nat) (ht : P.underlying t = some (.slice e)) (hi : P.info? e = some i)
    (v : Value) (n : Nat) (xs : List Value) (hs : a.eval s = v) (hown : w.ownsRow base e size v n xs) (hx : a.eval x = .slice none 0 0) (h : K (a.put o.dst v) w) :
    if Region.wanted o (yielded ops a.tmps) = true then Oper.wp P o a w K Q else E := by
  have hw : Region.wanted o (yielded ops a.tmps) = true := by simp [Region.wanted, hg]
  rw [if_pos hw]
  have hrun := run_append_owned_none (P := P) (w := w) base t o.type e i size ht hi v n xs hown
  unfold Oper.wp
  simp [execOp, hop, resolve, invoke, builtin, hs, hx, hrun, Result.andThen]
  exact h
set_option maxRecDepth 100000 in
set_option maxHeartbeats 16000000 in
theorem put_nil (b0 : Nat) (x : Int) (w : World) (hb0 : b0 ≤ w.heap.size) :
    Calls Tryz.prog 41 #[.slice none 0 0, .int .i64 x] w fun e w' => ∃ v', e = .returned v' ∧ IntL w' b0 v' [x] ∧ Below w.heap.size w w' := by
  obtain ⟨i0, hi0, hz0, hz1, hz2⟩ := info_parts Tryz.info3
  have HF : Hid (∀ (w3 : World) (v3 : Value), w3.ownsRow w.heap.size 3 1 v3 (0 + 1) ([] ++ [.int .i64 x]) → IntL w3 b0 v3 [x]) := Lib.hid (fun w3 v3 h => IntL.low (c := w.heap.size) h hb0)
  have HI := Lib.hid (And.intro hi0 (And.intro hz0 (And.intro hz1 hz2)))
  go_enter Tryz.func41, Tryz.ntmps41
  go_wp2_with fail
  refine wp_loop_rounds 1 ?_
  rw [rounds_succ]
  go_upto_region 6 with fail
  go_region_law (first
    | (refine step_append_none rfl (.tmp 33) (.tmp 36) 27 rfl w.heap.size 3 i0 1 Tryz.underlying27 HI.out.1 (.slice (some ⟨w.heap.size, 0, none⟩) 0 0) 0 [] (by simp [Act.eval]) ?_ (by simp [Act.eval]) ?_
       · first | exact World.ownsRow.drew (own_empty _ _ _ _ (by simp)) | exact World.ownsRow.drew ((own_empty _ _ _ _ (by simp)).alloc _) | (have h := own_empty (w.alloc (.cells #[.int .i64 x] 3)) w.heap.size 3 1 (by simp); simp only [World.size_alloc] at h; exact World.ownsRow.drew h))
    | (refine step_append_none rfl (.tmp 33) (.tmp 36) 27 rfl w.heap.size 3 i0 1 Tryz.underlying27 HI.out.1 (.slice (some ⟨w.heap.size + 1, 0, none⟩) 0 0) 0 [] (by simp [Act.eval]) ?_ (by simp [Act.eval]) ?_
       · first | exact World.ownsRow.drew (own_empty _ _ _ _ (by simp)) | exact World.ownsRow.drew ((own_empty _ _ _ _ (by simp)).alloc _) | (have h := own_empty (w.alloc (.cells #[.int .i64 x] 3)) w.heap.size 3 1 (by simp); simp only [World.size_alloc] at h; exact World.ownsRow.drew h))
    | (refine step_append_own rfl (.tmp 37) (.tmp 39) 27 rfl w.heap.size 3 i0 (.int .i64 0) 1 8 Tryz.underlying27 HI.out.1 HI.out.2.1 HI.out.2.2.1 HI.out.2.2.2 rfl (by decide) (.slice (some ⟨w.heap.size, 0, none⟩) 0 0) 0 [] (by simp [Act.eval]) ?_ ⟨w.heap.size + 1, 0, none⟩ 1 1 [.int .i64 x] (by simp [Act.eval]) rfl ?_ (by simp [Value.oneCell']) (by decide) (by decide) (by first | (simp; done) | (simp; omega)) ?_
       · first | exact World.ownsRow.drew (own_empty _ _ _ _ (by simp)) | exact World.ownsRow.drew ((own_empty _ _ _ _ (by simp)).alloc _) | (have h := own_empty (w.alloc (.cells #[.int .i64 x] 3)) w.heap.size 3 1 (by simp); simp only [World.size_alloc] at h; exact World.ownsRow.drew h)
       · first
         | (intro j u hj; have h := cells_here w [.int .i64 x] 3 j u hj; rw [Addr.add_lit] at h ⊢; first | exact h | exact (cell_alloc (by simp)).trans h)
         | (intro j u hj; have h := cells_here (w.alloc (.cells #[] 3)) [.int .i64 x] 3 j u hj; rw [Addr.add_lit] at h ⊢; simp only [World.size_alloc] at h; exact h)
       intro v2 w2 hown2 hg2 _
       have hb2 := Lib.hid (Below.grown (B := w.heap.size) (a := w) (by repeat (first | with_reducible exact Below.refl _ _ | (with_reducible refine Below.drew ?_) | (with_reducible refine Below.alloc ?_ (by first | exact Nat.le_refl _ | (simp <;> omega)) _))) hg2 (by first | (simp; done) | (simp; omega)) (by intro k hk; simp [Value.ownBlock] at hk; omega))
       clear hg2)
    | (refine step_append_own rfl (.tmp 37) (.tmp 39) 27 rfl w.heap.size 3 i0 (.int .i64 0) 1 8 Tryz.underlying27 HI.out.1 HI.out.2.1 HI.out.2.2.1 HI.out.2.2.2 rfl (by decide) (.slice (some ⟨w.heap.size + 1, 0, none⟩) 0 0) 0 [] (by simp [Act.eval]) ?_ ⟨w.heap.size, 0, none⟩ 1 1 [.int .i64 x] (by simp [Act.eval]) rfl ?_ (by simp [Value.oneCell']) (by decide) (by decide) (by first | (simp; done) | (simp; omega)) ?_
       · first | exact World.ownsRow.drew (own_empty _ _ _ _ (by simp)) | exact World.ownsRow.drew ((own_empty _ _ _ _ (by simp)).alloc _) | (have h := own_empty (w.alloc (.cells #[.int .i64 x] 3)) w.heap.size 3 1 (by simp); simp only [World.size_alloc] at h; exact World.ownsRow.drew h)
       · first
         | (intro j u hj; have h := cells_here w [.int .i64 x] 3 j u hj; rw [Addr.add_lit] at h ⊢; first | exact h | exact (cell_alloc (by simp)).trans h)
         | (intro j u hj; have h := cells_here (w.alloc (.cells #[] 3)) [.int .i64 x] 3 j u hj; rw [Addr.add_lit] at h ⊢; simp only [World.size_alloc] at h; exact h)
       intro v2 w2 hown2 hg2 _
       have hb2 := Lib.hid (Below.grown (B := w.heap.size) (a := w) (by repeat (first | with_reducible exact Below.refl _ _ | (with_reducible refine Below.drew ?_) | (with_reducible refine Below.alloc ?_ (by first | exact Nat.le_refl _ | (simp <;> omega)) _))) hg2 (by first | (simp; done) | (simp; omega)) (by intro k hk; simp [Value.ownBlock] at hk; omega))
       clear hg2)
    | (refine step_append_none rfl (.tmp 40) (.tmp 43) 27 rfl w.heap.size 3 i0 1 Tryz.underlying27 HI.out.1 v2 (0 + 1) _ (by simp [Act.eval]) hown2 (by simp [Act.eval]) ?_))
  all_goals go_wp2_with fail
  all_goals go_ret
  all_goals exact ⟨_, rfl, HF.out _ _ hown2, hb2.out⟩
theorem put_any (v : Value) (b0 : Nat) (l : List Int) (x : Int) (w : World) (h : IntL w b0 v l) (hl : l.length ≤ 100000) (hb0 : b0 ≤ w.heap.size) :
    Calls Tryz.prog 41 #[v, .int .i64 x] w fun e w' => ∃ v', e = .returned v' ∧ IntL w' b0 v' (put l x) ∧ Below w.heap.size w w' := by
  rcases id h.2 with ⟨rfl, h0⟩ | ⟨g, cap, cur, rfl, -⟩
  · have e : l = [] := List.eq_nil_of_length_eq_zero h0
    subst e
    exact put_nil b0 x w hb0
  · exact put_some g cap b0 l x l.length w rfl h hl hb0
end Go.Proofs.YtbgcccfgcdkmdaaGreatDoor
