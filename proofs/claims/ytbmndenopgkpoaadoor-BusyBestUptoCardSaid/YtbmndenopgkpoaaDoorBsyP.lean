/- The document's put. -/
import Derived.Test.YtbmndenopgkpoaaDoorBsyI
import Derived.Deep.RegionWith
namespace Go.Proofs.YtbmndenopgkpoaaDoor
open Go.RowKit Wrk
theorem Tryd.info3 : (Tryd.prog.info? 3).map (fun i => (i.zero, i.size, i.bytes)) = some (some (.int .i64 0), 1, 8) := by kernel_rfl
/-- Cells of an old block in a later world. -/
theorem cells_old {B : Nat} {w w' : World} (h : Below B w w') {b : Nat} (hb : b < B) (off : Nat) (news : List Value) (hc : ∀ j u, news[j]? = some u → w.cell? ⟨b, off + j, none⟩ = some u) : ∀ j u, news[j]? = some u → w'.cell? ((⟨b, off, none⟩ : Addr).add j) = some u := by
  intro j u hj
  rw [Addr.add_lit]
  exact (h.cell (p := ⟨b, off + j, none⟩) hb).trans (hc j u hj)
theorem cell_alloc {w : World} {x : Obj} {B o : Nat} (h : B < w.heap.size) : (w.alloc x).cell? ⟨B, o, none⟩ = w.cell? ⟨B, o, none⟩ := World.cell?_alloc_lt _ _ ⟨B, o, none⟩ h
theorem cells_atI {w : World} {z : Nat} (hz : w.heap.size = z) (vs : List Value) (e : TypeId) : ∀ j u, vs[j]? = some u → (w.alloc (.cells vs.toArray e)).cell? ((⟨z, 0, none⟩ : Addr).add j) = some u := by
  subst hz; exact cells_here w vs e
set_option maxRecDepth 100000 in
set_option maxHeartbeats 16000000 in
theorem put_some (g cap : Nat) (b0 : Nat) (l : List Int) (x : Int) (n : Nat) (w : World) (hn : l.length = n) (h : IntL w b0 (.slice (some ⟨g, 0, none⟩) n cap) l) (hl : n ≤ 100000) (hb0 : b0 ≤ w.heap.size) :
    Calls Tryd.prog 21 #[.slice (some ⟨g, 0, none⟩) n cap, .int .i64 x] w fun e w' => ∃ v', e = .returned v' ∧ IntL w' b0 v' (put l x) ∧ Below w.heap.size w w' := by
  obtain ⟨i0, hi0, hz0, hz1, hz2⟩ := info_parts Tryd.info3
  have H := Lib.hid h
  have HN := Lib.hid hn
  have hnc : (n : Int) ≤ (cap : Int) := by
    rcases h.2 with ⟨h2, -⟩ | ⟨g', c', cur, h3, h4, h5, h6, h7⟩
    · cases h2
    · cases h3; omega
  clear h hn
  go_enter Tryd.func21, Tryd.ntmps21
  go_wp2_with fail
  go_loopw [5] (fun c wr => ∃ i : Nat, c = .int .i64 (i : Int) ∧ i ≤ n ∧ w = wr ∧ Hid (∀ j, j < i → l.getD j 0 < x)) (fun c _ => n - (intOf c).toNat)
  case atStart => exact ⟨0, rfl, by omega, rfl, Lib.hid (fun j hj => by omega)⟩
  case round =>
    obtain ⟨i, rfl, hi, rfl, HL⟩ := hrel
    have k1 : (0 : Int) ≤ (i : Int) := by omega
    by_cases hin : i < n
    · obtain ⟨g', e, -, hg, hc, -⟩ := H.out.at (k := i) (by rw [HN.out]; exact hin)
      cases e
      have HPA := Lib.hid (fun h => put_at x l i (by rw [HN.out]; exact hi) HL.out h)
      obtain ⟨d, hd⟩ : ∃ d, l.getD i 0 = d := ⟨_, rfl⟩
      rw [hd] at hc HPA
      have HD := Lib.hid hd
      have k2 : (i : Int) < (n : Int) := by omega
      clear hd
      by_cases hlt : d < x
      · have HL2 : Hid (∀ j, j < i + 1 → l.getD j 0 < x) := Lib.hid (fun j hj => by
          by_cases hji : j = i
          · rw [hji, HD.out]; exact hlt
          · exact HL.out j (by omega))
        clear hg HPA
        go_wp2_with fail
        go_roundw
        case rel => exact ⟨i + 1, by go_num, by omega, trivial, HL2⟩
        case measure => simp [intOf]; omega
      · have HPB := Lib.hid (HPA.out (fun _ => hlt))
        by_cases heq : d = x
        · subst heq
          have HR : Hid (put l d = l) := Lib.hid (HPB.out.trans (if_pos ⟨by rw [HN.out]; exact hin, rfl⟩))
          clear hg HPA HPB
          go_wp2_with fail
          go_ret
          rw [HR.out]
          exact ⟨_, rfl, H.out, Below.refl _ _⟩
        · have HR : Hid (put l x = l.take i ++ x :: l.drop i) := Lib.hid (HPB.out.trans (if_neg (fun e => heq e.2)))
          have bne : (d == x) = false := beq_eq_false_iff_ne.2 heq
          clear hg HPA HPB
          go_upto_region 6 with fail
          have hgl := (H.out.lt g rfl).2
          have hcell : ∀ j, j < n → w.cell? ⟨g, j, none⟩ = some (.int .i64 (l.getD j 0)) := fun j hj => by
            obtain ⟨g', e, -, -, hc, -⟩ := H.out.at (k := j) (by rw [HN.out]; exact hj)
            cases e
            exact hc
          have HG := Lib.hid hgl
          have HL1 : Hid ((intV (l.take i)).length = i * 1) := Lib.hid (by unfold intV; rw [List.length_map, List.length_take, HN.out]; omega)
          have HL3 : Hid ((intV (l.drop i)).length = (n - i) * 1) := Lib.hid (by unfold intV; rw [List.length_map, List.length_drop, HN.out]; omega)
          have HO1 : Hid (∀ u ∈ intV (l.take i), u.oneCell' = true) := Lib.hid (fun u hu => by obtain ⟨z, _, rfl⟩ := List.mem_map.1 hu; rfl)
          have HO3 : Hid (∀ u ∈ intV (l.drop i), u.oneCell' = true) := Lib.hid (fun u hu => by obtain ⟨z, _, rfl⟩ := List.mem_map.1 hu; rfl)
          have HC1 : Hid (∀ j u, (intV (l.take i))[j]? = some u → w.cell? ⟨g, 0 + j, none⟩ = some u) := Lib.hid (fun j u hj => by
            have hj1 : j < i := by
              have := (List.getElem?_eq_some_iff.1 hj).1
              rw [HL1.out] at this; omega
            rw [Nat.zero_add, hcell j (by omega)]
            unfold intV at hj
            rw [List.getElem?_map, List.getElem?_take_of_lt hj1, List.getElem?_eq_getElem (by rw [HN.out]; omega)] at hj
            rw [← hj, List.getD_eq_getElem?_getD, List.getElem?_eq_getElem (by rw [HN.out]; omega)]
            rfl)
          have HC3 : Hid (∀ j u, (intV (l.drop i))[j]? = some u → w.cell? ⟨g, i + j, none⟩ = some u) := Lib.hid (fun j u hj => by
            have hj1 : j < n - i := by
              have := (List.getElem?_eq_some_iff.1 hj).1
              rw [HL3.out] at this; omega
            rw [hcell (i + j) (by omega)]
            unfold intV at hj
            rw [List.getElem?_map, List.getElem?_drop, List.getElem?_eq_getElem (by rw [HN.out]; omega)] at hj
            rw [← hj, List.getD_eq_getElem?_getD, List.getElem?_eq_getElem (by rw [HN.out]; omega)]
            rfl)
          have HF : Hid (∀ (w3 : World) (v3 : Value), w3.ownsRow w.heap.size 3 1 v3 (0 + i + 1 + (n - i)) ([] ++ intV (l.take i) ++ [.int .i64 x] ++ intV (l.drop i)) → IntL w3 b0 v3 (put l x)) := Lib.hid (fun w3 v3 h => by
            rw [HR.out]
            refine IntL.low (c := w.heap.size) ?_ hb0
            have e1 : (l.take i ++ x :: l.drop i).length = 0 + i + 1 + (n - i) := by
              rw [List.length_append, List.length_cons, List.length_take, List.length_drop, HN.out]; omega
            have e2 : intV (l.take i ++ x :: l.drop i) = [] ++ intV (l.take i) ++ [.int .i64 x] ++ intV (l.drop i) := by simp [intV]
            unfold IntL
            rw [e1, e2]
            exact h)
          have HI := Lib.hid (And.intro hi0 (And.intro hz0 (And.intro hz1 hz2)))
          have hci : ¬ cap = i := by omega
          have q1 : (i : Int) ≤ (n : Int) := by omega
          have q2 : (i : Int) ≤ (cap : Int) := by omega
          clear hgl hcell
          go_region_law (first
              | (refine step_append_own rfl (.tmp 33) (.tmp 36) 23 rfl w.heap.size 3 i0 (.int .i64 0) 1 8 Tryd.underlying23 HI.out.1 HI.out.2.1 HI.out.2.2.1 HI.out.2.2.2 rfl (by decide) (.slice (some ⟨w.heap.size, 0, none⟩) 0 0) 0 [] (by simp [Act.eval]) ?_ ⟨g, 0, none⟩ i cap (intV (l.take i)) (by simp [Act.eval]) HL1.out ?_ HO1.out (by unfold maxLen; omega) (by omega) (by first | (simp; done) | (simp; omega)) ?_
                 · first | exact World.ownsRow.drew (own_empty _ _ _ _ (by simp)) | exact World.ownsRow.drew ((own_empty _ _ _ _ (by simp)).alloc _) | (have h := own_empty (w.alloc (.cells #[.int .i64 x] 3)) w.heap.size 3 1 (by simp); simp only [World.size_alloc] at h; exact World.ownsRow.drew h)
                 · exact cells_old (B := w.heap.size) (by repeat (first | with_reducible exact Below.refl _ _ | with_reducible exact hb1.out | with_reducible exact hb2.out | (with_reducible refine Below.drew ?_) | (with_reducible refine Below.alloc ?_ (by first | exact Nat.le_refl _ | (simp <;> omega)) _))) HG.out 0 _ HC1.out
                 intro v1 w1 hown1 hg1 _
                 have hb1 := Lib.hid (Below.grown (B := w.heap.size) (a := w) (by repeat (first | with_reducible exact Below.refl _ _ | with_reducible exact hb1.out | with_reducible exact hb2.out | (with_reducible refine Below.drew ?_) | (with_reducible refine Below.alloc ?_ (by first | exact Nat.le_refl _ | (simp <;> omega)) _))) hg1 (by first | (simp; done) | (simp; omega)) (by intro k hk; simp [Value.ownBlock] at hk; omega))
                 have hG1 := Lib.hid hg1
                 clear hg1)
              | (refine step_append_own rfl (.tmp 33) (.tmp 36) 23 rfl w.heap.size 3 i0 (.int .i64 0) 1 8 Tryd.underlying23 HI.out.1 HI.out.2.1 HI.out.2.2.1 HI.out.2.2.2 rfl (by decide) (.slice (some ⟨w.heap.size + 1, 0, none⟩) 0 0) 0 [] (by simp [Act.eval]) ?_ ⟨g, 0, none⟩ i cap (intV (l.take i)) (by simp [Act.eval]) HL1.out ?_ HO1.out (by unfold maxLen; omega) (by omega) (by first | (simp; done) | (simp; omega)) ?_
                 · first | exact World.ownsRow.drew (own_empty _ _ _ _ (by simp)) | exact World.ownsRow.drew ((own_empty _ _ _ _ (by simp)).alloc _) | (have h := own_empty (w.alloc (.cells #[.int .i64 x] 3)) w.heap.size 3 1 (by simp); simp only [World.size_alloc] at h; exact World.ownsRow.drew h)
                 · exact cells_old (B := w.heap.size) (by repeat (first | with_reducible exact Below.refl _ _ | with_reducible exact hb1.out | with_reducible exact hb2.out | (with_reducible refine Below.drew ?_) | (with_reducible refine Below.alloc ?_ (by first | exact Nat.le_refl _ | (simp <;> omega)) _))) HG.out 0 _ HC1.out
                 intro v1 w1 hown1 hg1 _
                 have hb1 := Lib.hid (Below.grown (B := w.heap.size) (a := w) (by repeat (first | with_reducible exact Below.refl _ _ | with_reducible exact hb1.out | with_reducible exact hb2.out | (with_reducible refine Below.drew ?_) | (with_reducible refine Below.alloc ?_ (by first | exact Nat.le_refl _ | (simp <;> omega)) _))) hg1 (by first | (simp; done) | (simp; omega)) (by intro k hk; simp [Value.ownBlock] at hk; omega))
                 have hG1 := Lib.hid hg1
                 clear hg1)
              | (refine step_append_own rfl (.tmp 37) (.tmp 39) 23 rfl w.heap.size 3 i0 (.int .i64 0) 1 8 Tryd.underlying23 HI.out.1 HI.out.2.1 HI.out.2.2.1 HI.out.2.2.2 rfl (by decide) v1 (0 + i) ([] ++ intV (l.take i)) (by simp [Act.eval]) ?_ ⟨w1.heap.size, 0, none⟩ 1 1 [.int .i64 x] (by simp [Act.eval]) rfl ?_ (by simp [Value.oneCell']) (by unfold maxLen; omega) (by omega) (by have := hb1.out.size; first | omega | (simp; omega)) ?_
                 · first | exact hown1 | exact hown1.alloc _
                 · exact cells_here _ [.int .i64 x] 3
                 intro v2 w2 hown2 hg2 _
                 have hb2 := Lib.hid (Below.grown (B := w.heap.size) (a := w) (by first | exact hb1.out | exact hb1.out.alloc hb1.out.size _) hg2 (by have := hb1.out.size; first | omega | (simp; omega)) (fun k hk => (hown1.lt k hk).1))
                 clear hg2)
              | (refine step_append_own rfl (.tmp 37) (.tmp 39) 23 rfl w.heap.size 3 i0 (.int .i64 0) 1 8 Tryd.underlying23 HI.out.1 HI.out.2.1 HI.out.2.2.1 HI.out.2.2.2 rfl (by decide) v1 (0 + i) ([] ++ intV (l.take i)) (by simp [Act.eval]) ?_ ⟨w.heap.size + 1, 0, none⟩ 1 1 [.int .i64 x] (by simp [Act.eval]) rfl ?_ (by simp [Value.oneCell']) (by unfold maxLen; omega) (by omega) (by have := hb1.out.size; first | omega | (simp; omega)) ?_
                 · first | exact hown1 | exact hown1.alloc _
                 · intro j u hj
                   have h := cells_here (w.alloc (.cells #[] 3)) [.int .i64 x] 3 j u hj
                   rw [Addr.add_lit] at h ⊢
                   simp only [World.size_alloc] at h
                   exact (World.cell?_of_block (hG1.out.block (w.heap.size + 1) (by simp) (by simp [Value.ownBlock]))).trans h
                 intro v2 w2 hown2 hg2 _
                 have hb2 := Lib.hid (Below.grown (B := w.heap.size) (a := w) (by first | exact hb1.out | exact hb1.out.alloc hb1.out.size _) hg2 (by have := hb1.out.size; first | omega | (simp; omega)) (fun k hk => (hown1.lt k hk).1))
                 clear hg2)
              | (refine step_append_own rfl (.tmp 37) (.tmp 39) 23 rfl w.heap.size 3 i0 (.int .i64 0) 1 8 Tryd.underlying23 HI.out.1 HI.out.2.1 HI.out.2.2.1 HI.out.2.2.2 rfl (by decide) v1 (0 + i) ([] ++ intV (l.take i)) (by simp [Act.eval]) ?_ ⟨w.heap.size, 0, none⟩ 1 1 [.int .i64 x] (by simp [Act.eval]) rfl ?_ (by simp [Value.oneCell']) (by unfold maxLen; omega) (by omega) (by have := hb1.out.size; first | omega | (simp; omega)) ?_
                 · first | exact hown1 | exact hown1.alloc _
                 · intro j u hj
                   have h := cells_here w [.int .i64 x] 3 j u hj
                   rw [Addr.add_lit] at h ⊢
                   exact (World.cell?_of_block (hG1.out.block w.heap.size (by simp <;> omega) (by simp [Value.ownBlock]))).trans ((cell_alloc (by simp)).trans h)
                 intro v2 w2 hown2 hg2 _
                 have hb2 := Lib.hid (Below.grown (B := w.heap.size) (a := w) (by first | exact hb1.out | exact hb1.out.alloc hb1.out.size _) hg2 (by have := hb1.out.size; first | omega | (simp; omega)) (fun k hk => (hown1.lt k hk).1))
                 clear hg2)
              | (refine step_append_own rfl (.tmp 40) (.tmp 43) 23 rfl w.heap.size 3 i0 (.int .i64 0) 1 8 Tryd.underlying23 HI.out.1 HI.out.2.1 HI.out.2.2.1 HI.out.2.2.2 rfl (by decide) v2 (0 + i + 1) _ (by simp [Act.eval]) hown2 ⟨g, i, none⟩ (n - i) (cap - i) (intV (l.drop i)) (by simp [Act.eval]) HL3.out ?_ HO3.out (by unfold maxLen; omega) (by omega) hb2.out.size ?_
                 · exact cells_old (B := w.heap.size) hb2.out HG.out i _ HC3.out
                 intro v3 w3 hown3 hg3 _
                 have hb3 := Lib.hid (Below.grown (B := w.heap.size) (a := w) hb2.out hg3 hb2.out.size (fun k hk => (hown2.lt k hk).1))
                 clear hg3))
          all_goals go_wp2_with fail
          all_goals go_ret
          all_goals
            exact ⟨_, rfl, HF.out _ _ hown3, hb3.out⟩
    · have hin2 : i = n := by omega
      have HR : Hid (put l x = l.take i ++ x :: l.drop i) := Lib.hid ((put_at x l i (by rw [HN.out]; exact hi) HL.out (fun h => by rw [HN.out] at h; omega)).trans (if_neg (fun e => by rw [HN.out] at e; omega)))
      clear hin2
      go_upto_region 6 with fail
      have hgl := (H.out.lt g rfl).2
      have hcell : ∀ j, j < n → w.cell? ⟨g, j, none⟩ = some (.int .i64 (l.getD j 0)) := fun j hj => by
        obtain ⟨g', e, -, -, hc, -⟩ := H.out.at (k := j) (by rw [HN.out]; exact hj)
        cases e
        exact hc
      have HG := Lib.hid hgl
      have HL1 : Hid ((intV (l.take i)).length = i * 1) := Lib.hid (by unfold intV; rw [List.length_map, List.length_take, HN.out]; omega)
      have HL3 : Hid ((intV (l.drop i)).length = (n - i) * 1) := Lib.hid (by unfold intV; rw [List.length_map, List.length_drop, HN.out]; omega)
      have HO1 : Hid (∀ u ∈ intV (l.take i), u.oneCell' = true) := Lib.hid (fun u hu => by obtain ⟨z, _, rfl⟩ := List.mem_map.1 hu; rfl)
      have HO3 : Hid (∀ u ∈ intV (l.drop i), u.oneCell' = true) := Lib.hid (fun u hu => by obtain ⟨z, _, rfl⟩ := List.mem_map.1 hu; rfl)
      have HC1 : Hid (∀ j u, (intV (l.take i))[j]? = some u → w.cell? ⟨g, 0 + j, none⟩ = some u) := Lib.hid (fun j u hj => by
        have hj1 : j < i := by
          have := (List.getElem?_eq_some_iff.1 hj).1
          rw [HL1.out] at this; omega
        rw [Nat.zero_add, hcell j (by omega)]
        unfold intV at hj
        rw [List.getElem?_map, List.getElem?_take_of_lt hj1, List.getElem?_eq_getElem (by rw [HN.out]; omega)] at hj
        rw [← hj, List.getD_eq_getElem?_getD, List.getElem?_eq_getElem (by rw [HN.out]; omega)]
        rfl)
      have HC3 : Hid (∀ j u, (intV (l.drop i))[j]? = some u → w.cell? ⟨g, i + j, none⟩ = some u) := Lib.hid (fun j u hj => by
        have hj1 : j < n - i := by
          have := (List.getElem?_eq_some_iff.1 hj).1
          rw [HL3.out] at this; omega
        rw [hcell (i + j) (by omega)]
        unfold intV at hj
        rw [List.getElem?_map, List.getElem?_drop, List.getElem?_eq_getElem (by rw [HN.out]; omega)] at hj
        rw [← hj, List.getD_eq_getElem?_getD, List.getElem?_eq_getElem (by rw [HN.out]; omega)]
        rfl)
      have HF : Hid (∀ (w3 : World) (v3 : Value), w3.ownsRow w.heap.size 3 1 v3 (0 + i + 1 + (n - i)) ([] ++ intV (l.take i) ++ [.int .i64 x] ++ intV (l.drop i)) → IntL w3 b0 v3 (put l x)) := Lib.hid (fun w3 v3 h => by
        rw [HR.out]
        refine IntL.low (c := w.heap.size) ?_ hb0
        have e1 : (l.take i ++ x :: l.drop i).length = 0 + i + 1 + (n - i) := by
          rw [List.length_append, List.length_cons, List.length_take, List.length_drop, HN.out]; omega
        have e2 : intV (l.take i ++ x :: l.drop i) = [] ++ intV (l.take i) ++ [.int .i64 x] ++ intV (l.drop i) := by simp [intV]
        unfold IntL
        rw [e1, e2]
        exact h)
      have HI := Lib.hid (And.intro hi0 (And.intro hz0 (And.intro hz1 hz2)))
      by_cases hci : cap = i
      · have HC0 : Hid (∀ j u, (intV (l.drop i))[j]? = some u → w.cell? ⟨g, 0 + j, none⟩ = some u) := Lib.hid (fun j u hj => by
          have := (List.getElem?_eq_some_iff.1 hj).1
          rw [HL3.out] at this; omega)
        have HCI := Lib.hid hci
        clear hci
        have q1 : (i : Int) ≤ (n : Int) := by omega
        have q2 : (i : Int) ≤ (cap : Int) := by omega
        clear hgl hcell
        go_region_law (first
            | (refine step_append_own rfl (.tmp 33) (.tmp 36) 23 rfl w.heap.size 3 i0 (.int .i64 0) 1 8 Tryd.underlying23 HI.out.1 HI.out.2.1 HI.out.2.2.1 HI.out.2.2.2 rfl (by decide) (.slice (some ⟨w.heap.size, 0, none⟩) 0 0) 0 [] (by simp [Act.eval]) ?_ ⟨g, 0, none⟩ i cap (intV (l.take i)) (by simp [Act.eval]) HL1.out ?_ HO1.out (by unfold maxLen; omega) (by omega) (by first | (simp; done) | (simp; omega)) ?_
               · first | exact World.ownsRow.drew (own_empty _ _ _ _ (by simp)) | exact World.ownsRow.drew ((own_empty _ _ _ _ (by simp)).alloc _) | (have h := own_empty (w.alloc (.cells #[.int .i64 x] 3)) w.heap.size 3 1 (by simp); simp only [World.size_alloc] at h; exact World.ownsRow.drew h)
               · exact cells_old (B := w.heap.size) (by repeat (first | with_reducible exact Below.refl _ _ | with_reducible exact hb1.out | with_reducible exact hb2.out | (with_reducible refine Below.drew ?_) | (with_reducible refine Below.alloc ?_ (by first | exact Nat.le_refl _ | (simp <;> omega)) _))) HG.out 0 _ HC1.out
               intro v1 w1 hown1 hg1 _
               have hb1 := Lib.hid (Below.grown (B := w.heap.size) (a := w) (by repeat (first | with_reducible exact Below.refl _ _ | with_reducible exact hb1.out | with_reducible exact hb2.out | (with_reducible refine Below.drew ?_) | (with_reducible refine Below.alloc ?_ (by first | exact Nat.le_refl _ | (simp <;> omega)) _))) hg1 (by first | (simp; done) | (simp; omega)) (by intro k hk; simp [Value.ownBlock] at hk; omega))
               have hG1 := Lib.hid hg1
               clear hg1)
            | (refine step_append_own rfl (.tmp 33) (.tmp 36) 23 rfl w.heap.size 3 i0 (.int .i64 0) 1 8 Tryd.underlying23 HI.out.1 HI.out.2.1 HI.out.2.2.1 HI.out.2.2.2 rfl (by decide) (.slice (some ⟨w.heap.size + 1, 0, none⟩) 0 0) 0 [] (by simp [Act.eval]) ?_ ⟨g, 0, none⟩ i cap (intV (l.take i)) (by simp [Act.eval]) HL1.out ?_ HO1.out (by unfold maxLen; omega) (by omega) (by first | (simp; done) | (simp; omega)) ?_
               · first | exact World.ownsRow.drew (own_empty _ _ _ _ (by simp)) | exact World.ownsRow.drew ((own_empty _ _ _ _ (by simp)).alloc _) | (have h := own_empty (w.alloc (.cells #[.int .i64 x] 3)) w.heap.size 3 1 (by simp); simp only [World.size_alloc] at h; exact World.ownsRow.drew h)
               · exact cells_old (B := w.heap.size) (by repeat (first | with_reducible exact Below.refl _ _ | with_reducible exact hb1.out | with_reducible exact hb2.out | (with_reducible refine Below.drew ?_) | (with_reducible refine Below.alloc ?_ (by first | exact Nat.le_refl _ | (simp <;> omega)) _))) HG.out 0 _ HC1.out
               intro v1 w1 hown1 hg1 _
               have hb1 := Lib.hid (Below.grown (B := w.heap.size) (a := w) (by repeat (first | with_reducible exact Below.refl _ _ | with_reducible exact hb1.out | with_reducible exact hb2.out | (with_reducible refine Below.drew ?_) | (with_reducible refine Below.alloc ?_ (by first | exact Nat.le_refl _ | (simp <;> omega)) _))) hg1 (by first | (simp; done) | (simp; omega)) (by intro k hk; simp [Value.ownBlock] at hk; omega))
               have hG1 := Lib.hid hg1
               clear hg1)
            | (refine step_append_own rfl (.tmp 37) (.tmp 39) 23 rfl w.heap.size 3 i0 (.int .i64 0) 1 8 Tryd.underlying23 HI.out.1 HI.out.2.1 HI.out.2.2.1 HI.out.2.2.2 rfl (by decide) v1 (0 + i) ([] ++ intV (l.take i)) (by simp [Act.eval]) ?_ ⟨w1.heap.size, 0, none⟩ 1 1 [.int .i64 x] (by simp [Act.eval]) rfl ?_ (by simp [Value.oneCell']) (by unfold maxLen; omega) (by omega) (by have := hb1.out.size; first | omega | (simp; omega)) ?_
               · first | exact hown1 | exact hown1.alloc _
               · exact cells_here _ [.int .i64 x] 3
               intro v2 w2 hown2 hg2 _
               have hb2 := Lib.hid (Below.grown (B := w.heap.size) (a := w) (by first | exact hb1.out | exact hb1.out.alloc hb1.out.size _) hg2 (by have := hb1.out.size; first | omega | (simp; omega)) (fun k hk => (hown1.lt k hk).1))
               clear hg2)
            | (refine step_append_own rfl (.tmp 37) (.tmp 39) 23 rfl w.heap.size 3 i0 (.int .i64 0) 1 8 Tryd.underlying23 HI.out.1 HI.out.2.1 HI.out.2.2.1 HI.out.2.2.2 rfl (by decide) v1 (0 + i) ([] ++ intV (l.take i)) (by simp [Act.eval]) ?_ ⟨w.heap.size + 1, 0, none⟩ 1 1 [.int .i64 x] (by simp [Act.eval]) rfl ?_ (by simp [Value.oneCell']) (by unfold maxLen; omega) (by omega) (by have := hb1.out.size; first | omega | (simp; omega)) ?_
               · first | exact hown1 | exact hown1.alloc _
               · intro j u hj
                 have h := cells_here (w.alloc (.cells #[] 3)) [.int .i64 x] 3 j u hj
                 rw [Addr.add_lit] at h ⊢
                 simp only [World.size_alloc] at h
                 exact (World.cell?_of_block (hG1.out.block (w.heap.size + 1) (by simp) (by simp [Value.ownBlock]))).trans h
               intro v2 w2 hown2 hg2 _
               have hb2 := Lib.hid (Below.grown (B := w.heap.size) (a := w) (by first | exact hb1.out | exact hb1.out.alloc hb1.out.size _) hg2 (by have := hb1.out.size; first | omega | (simp; omega)) (fun k hk => (hown1.lt k hk).1))
               clear hg2)
            | (refine step_append_own rfl (.tmp 37) (.tmp 39) 23 rfl w.heap.size 3 i0 (.int .i64 0) 1 8 Tryd.underlying23 HI.out.1 HI.out.2.1 HI.out.2.2.1 HI.out.2.2.2 rfl (by decide) v1 (0 + i) ([] ++ intV (l.take i)) (by simp [Act.eval]) ?_ ⟨w.heap.size, 0, none⟩ 1 1 [.int .i64 x] (by simp [Act.eval]) rfl ?_ (by simp [Value.oneCell']) (by unfold maxLen; omega) (by omega) (by have := hb1.out.size; first | omega | (simp; omega)) ?_
               · first | exact hown1 | exact hown1.alloc _
               · intro j u hj
                 have h := cells_here w [.int .i64 x] 3 j u hj
                 rw [Addr.add_lit] at h ⊢
                 exact (World.cell?_of_block (hG1.out.block w.heap.size (by simp <;> omega) (by simp [Value.ownBlock]))).trans ((cell_alloc (by simp)).trans h)
               intro v2 w2 hown2 hg2 _
               have hb2 := Lib.hid (Below.grown (B := w.heap.size) (a := w) (by first | exact hb1.out | exact hb1.out.alloc hb1.out.size _) hg2 (by have := hb1.out.size; first | omega | (simp; omega)) (fun k hk => (hown1.lt k hk).1))
               clear hg2)
            | (refine step_append_own rfl (.tmp 40) (.tmp 43) 23 rfl w.heap.size 3 i0 (.int .i64 0) 1 8 Tryd.underlying23 HI.out.1 HI.out.2.1 HI.out.2.2.1 HI.out.2.2.2 rfl (by decide) v2 (0 + i + 1) _ (by simp [Act.eval]) hown2 ⟨g, 0, none⟩ (n - i) (cap - i) (intV (l.drop i)) (by simp [Act.eval, HCI.out]) HL3.out ?_ HO3.out (by unfold maxLen; omega) (by omega) hb2.out.size ?_
               · exact cells_old (B := w.heap.size) hb2.out HG.out 0 _ HC0.out
               intro v3 w3 hown3 hg3 _
               have hb3 := Lib.hid (Below.grown (B := w.heap.size) (a := w) hb2.out hg3 hb2.out.size (fun k hk => (hown2.lt k hk).1))
               clear hg3))
        all_goals go_wp2_with fail
        all_goals go_ret
        all_goals
          exact ⟨_, rfl, HF.out _ _ hown3, hb3.out⟩
      · have q1 : (i : Int) ≤ (n : Int) := by omega
        have q2 : (i : Int) ≤ (cap : Int) := by omega
        clear hgl hcell
        go_region_law (first
            | (refine step_append_own rfl (.tmp 33) (.tmp 36) 23 rfl w.heap.size 3 i0 (.int .i64 0) 1 8 Tryd.underlying23 HI.out.1 HI.out.2.1 HI.out.2.2.1 HI.out.2.2.2 rfl (by decide) (.slice (some ⟨w.heap.size, 0, none⟩) 0 0) 0 [] (by simp [Act.eval]) ?_ ⟨g, 0, none⟩ i cap (intV (l.take i)) (by simp [Act.eval]) HL1.out ?_ HO1.out (by unfold maxLen; omega) (by omega) (by first | (simp; done) | (simp; omega)) ?_
               · first | exact World.ownsRow.drew (own_empty _ _ _ _ (by simp)) | exact World.ownsRow.drew ((own_empty _ _ _ _ (by simp)).alloc _) | (have h := own_empty (w.alloc (.cells #[.int .i64 x] 3)) w.heap.size 3 1 (by simp); simp only [World.size_alloc] at h; exact World.ownsRow.drew h)
               · exact cells_old (B := w.heap.size) (by repeat (first | with_reducible exact Below.refl _ _ | with_reducible exact hb1.out | with_reducible exact hb2.out | (with_reducible refine Below.drew ?_) | (with_reducible refine Below.alloc ?_ (by first | exact Nat.le_refl _ | (simp <;> omega)) _))) HG.out 0 _ HC1.out
               intro v1 w1 hown1 hg1 _
               have hb1 := Lib.hid (Below.grown (B := w.heap.size) (a := w) (by repeat (first | with_reducible exact Below.refl _ _ | with_reducible exact hb1.out | with_reducible exact hb2.out | (with_reducible refine Below.drew ?_) | (with_reducible refine Below.alloc ?_ (by first | exact Nat.le_refl _ | (simp <;> omega)) _))) hg1 (by first | (simp; done) | (simp; omega)) (by intro k hk; simp [Value.ownBlock] at hk; omega))
               have hG1 := Lib.hid hg1
               clear hg1)
            | (refine step_append_own rfl (.tmp 33) (.tmp 36) 23 rfl w.heap.size 3 i0 (.int .i64 0) 1 8 Tryd.underlying23 HI.out.1 HI.out.2.1 HI.out.2.2.1 HI.out.2.2.2 rfl (by decide) (.slice (some ⟨w.heap.size + 1, 0, none⟩) 0 0) 0 [] (by simp [Act.eval]) ?_ ⟨g, 0, none⟩ i cap (intV (l.take i)) (by simp [Act.eval]) HL1.out ?_ HO1.out (by unfold maxLen; omega) (by omega) (by first | (simp; done) | (simp; omega)) ?_
               · first | exact World.ownsRow.drew (own_empty _ _ _ _ (by simp)) | exact World.ownsRow.drew ((own_empty _ _ _ _ (by simp)).alloc _) | (have h := own_empty (w.alloc (.cells #[.int .i64 x] 3)) w.heap.size 3 1 (by simp); simp only [World.size_alloc] at h; exact World.ownsRow.drew h)
               · exact cells_old (B := w.heap.size) (by repeat (first | with_reducible exact Below.refl _ _ | with_reducible exact hb1.out | with_reducible exact hb2.out | (with_reducible refine Below.drew ?_) | (with_reducible refine Below.alloc ?_ (by first | exact Nat.le_refl _ | (simp <;> omega)) _))) HG.out 0 _ HC1.out
               intro v1 w1 hown1 hg1 _
               have hb1 := Lib.hid (Below.grown (B := w.heap.size) (a := w) (by repeat (first | with_reducible exact Below.refl _ _ | with_reducible exact hb1.out | with_reducible exact hb2.out | (with_reducible refine Below.drew ?_) | (with_reducible refine Below.alloc ?_ (by first | exact Nat.le_refl _ | (simp <;> omega)) _))) hg1 (by first | (simp; done) | (simp; omega)) (by intro k hk; simp [Value.ownBlock] at hk; omega))
               have hG1 := Lib.hid hg1
               clear hg1)
            | (refine step_append_own rfl (.tmp 37) (.tmp 39) 23 rfl w.heap.size 3 i0 (.int .i64 0) 1 8 Tryd.underlying23 HI.out.1 HI.out.2.1 HI.out.2.2.1 HI.out.2.2.2 rfl (by decide) v1 (0 + i) ([] ++ intV (l.take i)) (by simp [Act.eval]) ?_ ⟨w1.heap.size, 0, none⟩ 1 1 [.int .i64 x] (by simp [Act.eval]) rfl ?_ (by simp [Value.oneCell']) (by unfold maxLen; omega) (by omega) (by have := hb1.out.size; first | omega | (simp; omega)) ?_
               · first | exact hown1 | exact hown1.alloc _
               · exact cells_here _ [.int .i64 x] 3
               intro v2 w2 hown2 hg2 _
               have hb2 := Lib.hid (Below.grown (B := w.heap.size) (a := w) (by first | exact hb1.out | exact hb1.out.alloc hb1.out.size _) hg2 (by have := hb1.out.size; first | omega | (simp; omega)) (fun k hk => (hown1.lt k hk).1))
               clear hg2)
            | (refine step_append_own rfl (.tmp 37) (.tmp 39) 23 rfl w.heap.size 3 i0 (.int .i64 0) 1 8 Tryd.underlying23 HI.out.1 HI.out.2.1 HI.out.2.2.1 HI.out.2.2.2 rfl (by decide) v1 (0 + i) ([] ++ intV (l.take i)) (by simp [Act.eval]) ?_ ⟨w.heap.size + 1, 0, none⟩ 1 1 [.int .i64 x] (by simp [Act.eval]) rfl ?_ (by simp [Value.oneCell']) (by unfold maxLen; omega) (by omega) (by have := hb1.out.size; first | omega | (simp; omega)) ?_
               · first | exact hown1 | exact hown1.alloc _
               · intro j u hj
                 have h := cells_here (w.alloc (.cells #[] 3)) [.int .i64 x] 3 j u hj
                 rw [Addr.add_lit] at h ⊢
                 simp only [World.size_alloc] at h
                 exact (World.cell?_of_block (hG1.out.block (w.heap.size + 1) (by simp) (by simp [Value.ownBlock]))).trans h
               intro v2 w2 hown2 hg2 _
               have hb2 := Lib.hid (Below.grown (B := w.heap.size) (a := w) (by first | exact hb1.out | exact hb1.out.alloc hb1.out.size _) hg2 (by have := hb1.out.size; first | omega | (simp; omega)) (fun k hk => (hown1.lt k hk).1))
               clear hg2)
            | (refine step_append_own rfl (.tmp 37) (.tmp 39) 23 rfl w.heap.size 3 i0 (.int .i64 0) 1 8 Tryd.underlying23 HI.out.1 HI.out.2.1 HI.out.2.2.1 HI.out.2.2.2 rfl (by decide) v1 (0 + i) ([] ++ intV (l.take i)) (by simp [Act.eval]) ?_ ⟨w.heap.size, 0, none⟩ 1 1 [.int .i64 x] (by simp [Act.eval]) rfl ?_ (by simp [Value.oneCell']) (by unfold maxLen; omega) (by omega) (by have := hb1.out.size; first | omega | (simp; omega)) ?_
               · first | exact hown1 | exact hown1.alloc _
               · intro j u hj
                 have h := cells_here w [.int .i64 x] 3 j u hj
                 rw [Addr.add_lit] at h ⊢
                 exact (World.cell?_of_block (hG1.out.block w.heap.size (by simp <;> omega) (by simp [Value.ownBlock]))).trans ((cell_alloc (by simp)).trans h)
               intro v2 w2 hown2 hg2 _
               have hb2 := Lib.hid (Below.grown (B := w.heap.size) (a := w) (by first | exact hb1.out | exact hb1.out.alloc hb1.out.size _) hg2 (by have := hb1.out.size; first | omega | (simp; omega)) (fun k hk => (hown1.lt k hk).1))
               clear hg2)
            | (refine step_append_own rfl (.tmp 40) (.tmp 43) 23 rfl w.heap.size 3 i0 (.int .i64 0) 1 8 Tryd.underlying23 HI.out.1 HI.out.2.1 HI.out.2.2.1 HI.out.2.2.2 rfl (by decide) v2 (0 + i + 1) _ (by simp [Act.eval]) hown2 ⟨g, i, none⟩ (n - i) (cap - i) (intV (l.drop i)) (by simp [Act.eval]) HL3.out ?_ HO3.out (by unfold maxLen; omega) (by omega) hb2.out.size ?_
               · exact cells_old (B := w.heap.size) hb2.out HG.out i _ HC3.out
               intro v3 w3 hown3 hg3 _
               have hb3 := Lib.hid (Below.grown (B := w.heap.size) (a := w) hb2.out hg3 hb2.out.size (fun k hk => (hown2.lt k hk).1))
               clear hg3))
        all_goals go_wp2_with fail
        all_goals go_ret
        all_goals
          exact ⟨_, rfl, HF.out _ _ hown3, hb3.out⟩
theorem step_append_none {P : Program} {ops : Array Oper} {o : Oper} {a : Act} {w : World} {K : Act → World → Prop} {Q : Exit → Act → World → Prop} {E : Prop}
    (hg : o.guard = none) (s x : Operand) (t : TypeId) (hop : o.op = Op.call { callee := Callee.builtin Builtin.append, args := #[s, x], argTypes := #[t, t] })
    (base : Nat) (e : TypeId) (i : TypeInfo) (size : Nat) (ht : P.underlying t = some (.slice e)) (hi : P.info? e = some i)
    (v : Value) (n : Nat) (xs : List Value) (hs : a.eval s = v) (hown : w.ownsRow base e size v n xs) (hx : a.eval x = .slice none 0 0) (h : K (a.put o.dst v) w) :
    if Region.wanted o (yielded ops a.tmps) = true then Oper.wp P o a w K Q else E := by
  have hw : Region.wanted o (yielded ops a.tmps) = true := by simp [Region.wanted, hg]
  rw [if_pos hw]
  have hrun := run_append_owned_none (P := P) (w := w) base t o.type e i size ht hi v n xs hown
  unfold Oper.wp
  simp [execOp, hop, resolve, invoke, builtin, hs, hx, hrun, Result.andThen]
  exact h
set_option maxRecDepth 100000 in
set_option maxHeartbeats 16000000 in
theorem put_nil (b0 : Nat) (x : Int) (w : World) (hb0 : b0 ≤ w.heap.size) :
    Calls Tryd.prog 21 #[.slice none 0 0, .int .i64 x] w fun e w' => ∃ v', e = .returned v' ∧ IntL w' b0 v' [x] ∧ Below w.heap.size w w' := by
  obtain ⟨i0, hi0, hz0, hz1, hz2⟩ := info_parts Tryd.info3
  have HF : Hid (∀ (w3 : World) (v3 : Value), w3.ownsRow w.heap.size 3 1 v3 (0 + 1) ([] ++ [.int .i64 x]) → IntL w3 b0 v3 [x]) := Lib.hid (fun w3 v3 h => IntL.low (c := w.heap.size) h hb0)
  have HI := Lib.hid (And.intro hi0 (And.intro hz0 (And.intro hz1 hz2)))
  go_enter Tryd.func21, Tryd.ntmps21
  go_wp2_with fail
  refine wp_loop_rounds 1 ?_
  rw [rounds_succ]
  go_upto_region 6 with fail
  go_region_law (first
    | (refine step_append_none rfl (.tmp 33) (.tmp 36) 23 rfl w.heap.size 3 i0 1 Tryd.underlying23 HI.out.1 (.slice (some ⟨w.heap.size, 0, none⟩) 0 0) 0 [] (by simp [Act.eval]) ?_ (by simp [Act.eval]) ?_
       · first | exact World.ownsRow.drew (own_empty _ _ _ _ (by simp)) | exact World.ownsRow.drew ((own_empty _ _ _ _ (by simp)).alloc _) | (have h := own_empty (w.alloc (.cells #[.int .i64 x] 3)) w.heap.size 3 1 (by simp); simp only [World.size_alloc] at h; exact World.ownsRow.drew h))
    | (refine step_append_none rfl (.tmp 33) (.tmp 36) 23 rfl w.heap.size 3 i0 1 Tryd.underlying23 HI.out.1 (.slice (some ⟨w.heap.size + 1, 0, none⟩) 0 0) 0 [] (by simp [Act.eval]) ?_ (by simp [Act.eval]) ?_
       · first | exact World.ownsRow.drew (own_empty _ _ _ _ (by simp)) | exact World.ownsRow.drew ((own_empty _ _ _ _ (by simp)).alloc _) | (have h := own_empty (w.alloc (.cells #[.int .i64 x] 3)) w.heap.size 3 1 (by simp); simp only [World.size_alloc] at h; exact World.ownsRow.drew h))
    | (refine step_append_own rfl (.tmp 37) (.tmp 39) 23 rfl w.heap.size 3 i0 (.int .i64 0) 1 8 Tryd.underlying23 HI.out.1 HI.out.2.1 HI.out.2.2.1 HI.out.2.2.2 rfl (by decide) (.slice (some ⟨w.heap.size, 0, none⟩) 0 0) 0 [] (by simp [Act.eval]) ?_ ⟨w.heap.size + 1, 0, none⟩ 1 1 [.int .i64 x] (by simp [Act.eval]) rfl ?_ (by simp [Value.oneCell']) (by decide) (by decide) (by first | (simp; done) | (simp; omega)) ?_
       · first | exact World.ownsRow.drew (own_empty _ _ _ _ (by simp)) | exact World.ownsRow.drew ((own_empty _ _ _ _ (by simp)).alloc _) | (have h := own_empty (w.alloc (.cells #[.int .i64 x] 3)) w.heap.size 3 1 (by simp); simp only [World.size_alloc] at h; exact World.ownsRow.drew h)
       · first
         | (intro j u hj; have h := cells_here w [.int .i64 x] 3 j u hj; rw [Addr.add_lit] at h ⊢; first | exact h | exact (cell_alloc (by simp)).trans h)
         | (intro j u hj; have h := cells_here (w.alloc (.cells #[] 3)) [.int .i64 x] 3 j u hj; rw [Addr.add_lit] at h ⊢; simp only [World.size_alloc] at h; exact h)
       intro v2 w2 hown2 hg2 _
       have hb2 := Lib.hid (Below.grown (B := w.heap.size) (a := w) (by repeat (first | with_reducible exact Below.refl _ _ | (with_reducible refine Below.drew ?_) | (with_reducible refine Below.alloc ?_ (by first | exact Nat.le_refl _ | (simp <;> omega)) _))) hg2 (by first | (simp; done) | (simp; omega)) (by intro k hk; simp [Value.ownBlock] at hk; omega))
       clear hg2)
    | (refine step_append_own rfl (.tmp 37) (.tmp 39) 23 rfl w.heap.size 3 i0 (.int .i64 0) 1 8 Tryd.underlying23 HI.out.1 HI.out.2.1 HI.out.2.2.1 HI.out.2.2.2 rfl (by decide) (.slice (some ⟨w.heap.size + 1, 0, none⟩) 0 0) 0 [] (by simp [Act.eval]) ?_ ⟨w.heap.size, 0, none⟩ 1 1 [.int .i64 x] (by simp [Act.eval]) rfl ?_ (by simp [Value.oneCell']) (by decide) (by decide) (by first | (simp; done) | (simp; omega)) ?_
       · first | exact World.ownsRow.drew (own_empty _ _ _ _ (by simp)) | exact World.ownsRow.drew ((own_empty _ _ _ _ (by simp)).alloc _) | (have h := own_empty (w.alloc (.cells #[.int .i64 x] 3)) w.heap.size 3 1 (by simp); simp only [World.size_alloc] at h; exact World.ownsRow.drew h)
       · first
         | (intro j u hj; have h := cells_here w [.int .i64 x] 3 j u hj; rw [Addr.add_lit] at h ⊢; first | exact h | exact (cell_alloc (by simp)).trans h)
         | (intro j u hj; have h := cells_here (w.alloc (.cells #[] 3)) [.int .i64 x] 3 j u hj; rw [Addr.add_lit] at h ⊢; simp only [World.size_alloc] at h; exact h)
       intro v2 w2 hown2 hg2 _
       have hb2 := Lib.hid (Below.grown (B := w.heap.size) (a := w) (by repeat (first | with_reducible exact Below.refl _ _ | (with_reducible refine Below.drew ?_) | (with_reducible refine Below.alloc ?_ (by first | exact Nat.le_refl _ | (simp <;> omega)) _))) hg2 (by first | (simp; done) | (simp; omega)) (by intro k hk; simp [Value.ownBlock] at hk; omega))
       clear hg2)
    | (refine step_append_none rfl (.tmp 40) (.tmp 43) 23 rfl w.heap.size 3 i0 1 Tryd.underlying23 HI.out.1 v2 (0 + 1) _ (by simp [Act.eval]) hown2 (by simp [Act.eval]) ?_))
  all_goals go_wp2_with fail
  all_goals go_ret
  all_goals exact ⟨_, rfl, HF.out _ _ hown2, hb2.out⟩
theorem put_any (v : Value) (b0 : Nat) (l : List Int) (x : Int) (w : World) (h : IntL w b0 v l) (hl : l.length ≤ 100000) (hb0 : b0 ≤ w.heap.size) :
    Calls Tryd.prog 21 #[v, .int .i64 x] w fun e w' => ∃ v', e = .returned v' ∧ IntL w' b0 v' (put l x) ∧ Below w.heap.size w w' := by
  rcases id h.2 with ⟨rfl, h0⟩ | ⟨g, cap, cur, rfl, -⟩
  · have e : l = [] := List.eq_nil_of_length_eq_zero h0
    subst e
    exact put_nil b0 x w hb0
  · exact put_some g cap b0 l x l.length w rfl h hl hb0
end Go.Proofs.YtbmndenopgkpoaaDoor
