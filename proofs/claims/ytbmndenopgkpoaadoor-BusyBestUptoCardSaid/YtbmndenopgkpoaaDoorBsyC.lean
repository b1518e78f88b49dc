/- busy.Check. -/
import Derived.Test.YtbmndenopgkpoaaDoorBsyA
import Derived.Test.YtbmndenopgkpoaaDoorBsyB
import Derived.Test.YtbmndenopgkpoaaDoorBsyS
namespace Go.Proofs.YtbmndenopgkpoaaDoor
open Go.RowKit Wrk Go.Shelf
theorem nodup_len (l : List Int) : (Lib.compact (sortL l)).length = (sortL l).length ↔ l.Nodup := by
  have hp : (sortL l).Perm l := List.mergeSort_perm l _
  constructor
  · intro h
    have h1 : Lib.compact (sortL l) = sortL l := by
      refine Lib.compact_all _ fun j hj => ?_
      have h2 := h
      unfold Lib.compact Lib.compactUpTo at h2
      rw [List.length_map] at h2
      have h3 : ((List.range (sortL l).length).filter (Lib.keeps (sortL l).toArray)).length = (List.range (sortL l).length).length := by rw [h2, List.length_range]
      exact List.length_filter_eq_length_iff.1 h3 j (List.mem_range.2 hj)
    have h2 := (sort_compact l).1
    rw [show (l.mergeSort fun x y => decide (x ≤ y)) = sortL l from rfl, h1] at h2
    exact hp.nodup_iff.1 (h2.imp fun h => by omega)
  · intro h
    exact congrArg List.length (rises_one (sort_compact l).1 (sort_rises h) fun x => ((sort_compact l).2 x).trans (List.mem_mergeSort (le := fun x y => decide (x ≤ y))).symm)
theorem sortL_len (l : List Int) : (sortL l).length = l.length := List.length_mergeSort l
theorem who_iff (l : List Int) (n : Int) : whoB l n = true ↔ (Lib.compact (sortL l)).length = l.length ∧ (0 < l.length → 0 ≤ (sortL l).getD 0 0 ∧ (sortL l).getD (l.length - 1) 0 < n) := by
  unfold whoB
  rw [decide_eq_true_iff, ← nodup_len, sortL_len]
  refine and_congr_right fun _ => ?_
  have hp : (sortL l).Pairwise (fun a b => decide (a ≤ b) = true) := List.pairwise_mergeSort (fun a b c h1 h2 => by simp at *; omega) (fun a b => by simp; omega) l
  have hm : ∀ x, x ∈ sortL l ↔ x ∈ l := fun x => List.mem_mergeSort
  have hlen := sortL_len l
  have hs : ∀ i j, i ≤ j → j < l.length → (sortL l).getD i 0 ≤ (sortL l).getD j 0 := by
    intro i j hij hj
    have hj' : j < (sortL l).length := by omega
    have hi' : i < (sortL l).length := by omega
    rw [List.getD_eq_getElem?_getD, List.getD_eq_getElem?_getD, List.getElem?_eq_getElem hj', List.getElem?_eq_getElem hi']
    by_cases e : i = j
    · subst e; exact Int.le_refl _
    · have := List.pairwise_iff_getElem.1 hp i j hi' hj' (by omega)
      simpa using this
  constructor
  · intro h h0
    exact ⟨(h _ ((hm _).1 (at_mem (show 0 < (sortL l).length by omega)))).1, (h _ ((hm _).1 (at_mem (show l.length - 1 < (sortL l).length by omega)))).2⟩
  · intro h x hx
    obtain ⟨i, hi, e⟩ := mem_at ((hm x).2 hx)
    rw [hlen] at hi
    obtain ⟨h1, h2⟩ := h (by omega)
    have h3 := hs 0 i (by omega) hi
    have h4 := hs i (l.length - 1) (by omega) (by omega)
    omega
theorem who_no {l : List Int} {n : Int} (h : (Lib.compact (sortL l)).length ≠ l.length) : whoB l n = false := by
  cases g : whoB l n
  · rfl
  · exact absurd ((who_iff l n).1 g).1 h
def wantV (W : Wnt) (vm vs : Value) : Value := .agg #[.int .i64 W.len, .int .i64 W.step, .int .i64 W.frm, .int .i64 W.to, vm, vs, .int .i64 W.seats]
theorem want_cells (W : Wnt) (vm vs : Value) (w : World) : ∃ wB, w.alloc (.cells #[.int .i64 W.len, .int .i64 W.step, .int .i64 W.frm, .int .i64 W.to, vm, vs, .int .i64 W.seats] 25) = wB ∧ (Below w.heap.size w wB ∧ w.heap.size < wB.heap.size) ∧ wB.cell? ⟨w.heap.size, 0, none⟩ = some (.int .i64 W.len) ∧ wB.cell? ⟨w.heap.size, 1, none⟩ = some (.int .i64 W.step) ∧ wB.cell? ⟨w.heap.size, 2, none⟩ = some (.int .i64 W.frm) ∧ wB.cell? ⟨w.heap.size, 3, none⟩ = some (.int .i64 W.to) ∧ wB.cell? ⟨w.heap.size, 4, none⟩ = some (vm) ∧ wB.cell? ⟨w.heap.size, 5, none⟩ = some (vs) ∧ wB.cell? ⟨w.heap.size, 6, none⟩ = some (.int .i64 W.seats) :=
  ⟨_, rfl, ⟨(Below.refl _ _).alloc (Nat.le_refl _) _, by simp⟩, by simp, by simp, by simp, by simp, by simp, by simp, by simp⟩
theorem IntC.form {w : World} {v : Value} {l : List Int} (h : IntC w v l) : ∃ oa cap, v = .slice oa l.length cap := by
  obtain ⟨oa, cap, h1, _⟩ := h; exact ⟨oa, cap, h1⟩
set_option maxHeartbeats 4000000 in
theorem cloneI_any (v : Value) (b : Nat) (l : List Int) (w : World) (h : IntL w b v l) (hl : l.length ≤ 100000000) :
    Calls Tryd.prog 36 #[v] w fun e w' => ∃ v', e = .returned v' ∧ IntL w' w.heap.size v' l ∧ Below w.heap.size w w' := by
  rcases h.2 with ⟨e, h0⟩ | ⟨g, cap, cur, e, h3⟩
  · have : l = [] := List.eq_nil_of_length_eq_zero h0
    subst this
    subst e
    refine (Any.slices_Clone_int_nil layCl 0 0 w).mono ?_
    rintro e w' ⟨rfl, rfl⟩
    exact ⟨_, rfl, IntL.nil _ _, Below.refl _ _⟩
  · subst e
    refine (Any.slices_Clone_int layCl g 0 l.length cap l w (Nat.le_refl _) (by omega) (fun j hj => ?_)).mono ?_
    · obtain ⟨g', e, -, -, hc, -⟩ := h.at hj
      cases e
      rw [Nat.zero_add]; exact hc
    · rintro e w' ⟨v', rfl, h1, -, h2⟩
      refine ⟨v', rfl, ?_, h2⟩
      rw [List.take_length] at h1
      exact h1
theorem bvE {a b : Bool} (h : a = true ↔ b = true) : Value.bool a = Value.bool b := by rw [Bool.eq_iff_iff.2 h]
set_option maxRecDepth 100000 in
set_option maxHeartbeats 16000000 in
theorem check_any (W : Wnt) (vm vs : Value) (n : Int) (w : World) (hm : IntC w vm W.must) (hs : IntC w vs W.should) (hl : W.must.length + W.should.length ≤ 10000000) :
    Calls Tryd.prog 22 #[wantV W vm vs, .int .i64 n] w fun e w' => e = .returned (errV (wChk W n)) ∧ Below w.heap.size w w' := by
  obtain ⟨om, cm, rfl⟩ := hm.form
  obtain ⟨os, cs, rfl⟩ := hs.form
  obtain ⟨wB, hwB, ⟨hb0, hlt⟩, f0, f1, f2, f3, f4, f5, f6⟩ := want_cells W (.slice om W.must.length cm) (.slice os W.should.length cs) w
  have HLN := Lib.hid hl
  obtain ⟨nm, hnm⟩ : ∃ x, W.must.length = x := ⟨_, rfl⟩
  obtain ⟨ns, hns⟩ : ∃ x, W.should.length = x := ⟨_, rfl⟩
  obtain ⟨nn, hnn⟩ : ∃ x, (W.must ++ W.should).length = x := ⟨_, rfl⟩
  have HNS := Lib.hid hnn
  rw [hnm] at hm hwB f4 hl ⊢
  rw [hns] at hs hwB f5 hl ⊢
  clear hnm hns hnn
  have HB0 := Lib.hid hb0
  have HLT := Lib.hid hlt
  have HM := Lib.hid (hm.call hb0)
  have HS := Lib.hid (hs.call hb0)
  obtain ⟨E, hE⟩ : ∃ E, wChk W n = E := ⟨_, rfl⟩
  rw [hE]
  have HE := Lib.hid hE
  unfold wantV
  obtain ⟨ln, hln⟩ : ∃ x, W.len = x := ⟨_, rfl⟩
  obtain ⟨st, hst⟩ : ∃ x, W.step = x := ⟨_, rfl⟩
  obtain ⟨fr, hfr⟩ : ∃ x, W.frm = x := ⟨_, rfl⟩
  obtain ⟨tt, htt⟩ : ∃ x, W.to = x := ⟨_, rfl⟩
  obtain ⟨se, hse⟩ : ∃ x, W.seats = x := ⟨_, rfl⟩
  unfold wChk at HE
  rw [hln, hst, hfr, htt, hse] at HE
  rw [hln, hst, hfr, htt, hse] at hwB ⊢
  rw [hln] at f0
  rw [hst] at f1
  rw [hfr] at f2
  rw [htt] at f3
  rw [hse] at f6
  have F2 := Lib.hid (And.intro f2 f3)
  have F4 := Lib.hid (And.intro f4 f5)
  have F1 := Lib.hid f1
  clear hE hm hs hln hst hfr htt hse hb0 hlt
  go_enter Tryd.func22, Tryd.ntmps22
  go_upto_region 1 with fail
  clear hwB
  go_cut [23] from 6 to 22 (fun q wx => q = .bool (decide (ln < 1 ∨ 34560000 < ln ∨ st < 1 ∨ se < 0)) ∧ wB = wx)
  case first =>
    clear f2 f3 f4 f5
    go_wp2_with fail
    all_goals go_meet
    all_goals exact ⟨bvE (by simp <;> omega), rfl⟩
  case rest =>
    obtain ⟨rfl, rfl⟩ := hcut
    clear f0 f1 f6 f4 f5
    by_cases h1 : ln < 1 ∨ 34560000 < ln ∨ st < 1 ∨ se < 0
    · rw [decide_eq_true h1]
      have he : E = 1 := by rw [← HE.out, if_pos h1]
      subst he
      clear h1
      go_wp2_with fail
      go_ret
      exact ⟨rfl, HB0.out⟩
    · rw [decide_eq_false h1]
      have HE1 := Lib.hid (HE.out.symm.trans (if_neg h1))
      have HST := Lib.hid (show 1 ≤ st by omega)
      clear HE h1
      go_upto_region 3 with fail
      go_cut [39] from 25 to 38 (fun q wx => q = .bool (decide (tt < fr ∨ fr < -345600086399 ∨ 345600086399 < tt)) ∧ wB = wx)
      case first =>
        go_wp2_with fail
        all_goals go_meet
        all_goals exact ⟨bvE (by simp <;> omega), rfl⟩
      case rest =>
        obtain ⟨rfl, rfl⟩ := hcut
        by_cases h2 : tt < fr ∨ fr < -345600086399 ∨ 345600086399 < tt
        · rw [decide_eq_true h2]
          have he : E = 4 := by rw [HE1.out, if_pos h2]
          subst he
          clear h2
          go_wp2_with fail
          go_ret
          exact ⟨rfl, HB0.out⟩
        · rw [decide_eq_false h2]
          have HE2 := Lib.hid (HE1.out.trans (if_neg h2))
          have k1 : 0 ≤ tt - fr ∧ tt - fr ≤ 800000000000 := by omega
          have k2 : wrap64 (tt - fr) = tt - fr := wrap_in (InI.mk (by omega) (by omega))
          have k2b : IntKind.i64.wrap (tt - fr) = tt - fr := IntWalk.i64_in _ (by omega)
          have k3 : (tt - fr).tdiv st = (tt - fr) / st := Int.tdiv_eq_ediv_of_nonneg k1.1
          have k4 : 0 ≤ (tt - fr) / st ∧ (tt - fr) / st ≤ 800000000000 := by
            have h1 := HST.out
            exact ⟨Int.ediv_nonneg k1.1 (by omega), Int.le_trans (Int.ediv_le_self _ k1.1) k1.2⟩
          have k5 : wrap64 ((tt - fr) / st) = (tt - fr) / st := wrap_in (InI.mk (by omega) (by omega))
          have k6 : ¬ st = 0 := by have := HST.out; omega
          have f1 := F1.out
          obtain ⟨QQ, hQ⟩ : ∃ x, (tt - fr) / st = x := ⟨_, rfl⟩
          rw [hQ] at k3 k5 HE2
          clear h2 hQ k1 k4
          have HQ : Hid (10000 < QQ → E = 6) := Lib.hid fun h => by rw [HE2.out, if_pos h]
          by_cases h3 : 10000 < QQ
          · have he := HQ.out h3
            subst he
            go_wp2_with fail
            go_ret
            exact ⟨rfl, HB0.out⟩
          · have HE3 := Lib.hid (HE2.out.trans (if_neg h3))
            have k7 : decide (10000 < QQ) = false := decide_eq_false h3
            clear HQ h3
            go_upto_region 7 with fail
            clear f1 f2 f3 k2 k2b k3 k5 k6 k7 HE2 HE1
            obtain ⟨f4, f5⟩ := F4.out
            go_upto_region 8 with fail
            refine (concatI_any _ _ _ W.must W.should _ (HM.out.call ?_) (HS.out.call ?_) (Nat.le_trans HLN.out (by decide)) ?_ ?_).mono ?_
            · exact (Below.refl _ _).alloc (Nat.le_refl _) _
            · exact (Below.refl _ _).alloc (Nat.le_refl _) _
            · simp [go_sem]
            · simp [go_sem]
            rintro e w2 ⟨v2, rfl, hv2, hb2⟩
            have HB2 := Lib.hid (thenB (HB0.out.alloc (Nat.le_of_lt HLT.out) _) hb2)
            have HV2 := Lib.hid (hv2.low (show w.heap.size ≤ _ by rw [World.size_alloc]; have := HLT.out; omega))
            obtain ⟨o2, c2, rfl⟩ := hv2.form
            rw [HNS.out] at HV2 ⊢
            clear hv2 hb2 f4 f5
            go_upto_region 9 with (go_at_call 34; refine (sort_any _ _ _ _ HV2.out (by have := HLN.out; rw [List.length_append]; omega)).mono ?_; rintro e w3 ⟨rfl, hs3, hg3⟩; have HS3 := Lib.hid hs3; have HB3 := Lib.hid (HB2.out.grown hg3 HB2.out.size (fun k hk => (World.ownsRow.lt HV2.out k hk).1)); clear hs3 hg3)
            have HSL : Hid ((sortL (W.must ++ W.should)).length = nn) := Lib.hid (by rw [sortL_len, HNS.out])
            have HLB : Hid (nn ≤ 100000000) := Lib.hid (by have := HLN.out; rw [← HNS.out, List.length_append]; omega)
            have HWI := Lib.hid (who_iff (W.must ++ W.should) n)
            rw [HNS.out] at HWI
            have HWN := Lib.hid (who_no (l := W.must ++ W.should) (n := n))
            rw [HNS.out] at HWN
            have HE4 : Hid (E = if whoB (W.must ++ W.should) n = true then 0 else 1) := HE3
            have HS3' : Hid (IntL w3 w.heap.size (.slice o2 (nn) c2) (sortL (W.must ++ W.should))) := HS3
            clear HS3 HE3
            have HS3 := HS3'
            clear HS3'
            go_cut [86] from 59 to 85 (fun q wx => q = .bool (!whoB (W.must ++ W.should) n) ∧ Hid (Below w.heap.size w wx))
            case first =>
              by_cases h0 : nn = 0
              · subst h0
                have hN : Hid (∀ K : Nat, (Lib.compact (sortL (W.must ++ W.should))).length = K → K = 0 → whoB (W.must ++ W.should) n = true) := Lib.hid fun K h1 h2 => HWI.out.2 ⟨by rw [h1, h2], fun h => absurd h (by omega)⟩
                have hN2 : Hid (∀ K : Nat, (Lib.compact (sortL (W.must ++ W.should))).length = K → K ≠ 0 → whoB (W.must ++ W.should) n = false) := Lib.hid fun K h1 h2 => HWN.out (by rw [h1]; exact h2)
                go_wp2_with (first
                | (go_at_call 36; refine (cloneI_any _ _ _ _ HS3.out (by rw [HSL.out]; exact HLB.out)).mono ?_; rintro e w4 ⟨v4, rfl, hv4, hb4⟩; have HS4 := Lib.hid (HS3.out.call hb4); have HV4 := Lib.hid hv4; have HB4 := Lib.hid (thenB HB3.out hb4); clear hv4 hb4)
                | (go_at_call 35; refine (compact_any _ _ _ _ HV4.out (by rw [HSL.out]; exact HLB.out)).mono ?_; rintro e w5 ⟨v5, rfl, hv5, hg5⟩; obtain ⟨o5, c5, rfl⟩ := hv5.form; obtain ⟨K, hK⟩ : ∃ K, (Lib.compact (sortL (W.must ++ W.should))).length = K := ⟨_, rfl⟩; have HK := Lib.hid hK; rw [hK]; have HB5 := Lib.hid (HB4.out.grown hg5 HB4.out.size (fun k hk => Nat.le_trans HB3.out.size (World.ownsRow.lt HV4.out k hk).1)); clear hv5 hg5 hK))
                all_goals go_meet
                all_goals refine ⟨bvE ?_, HB5⟩
                all_goals (have h1 := HWI.out; rw [HK.out] at h1; cases hw : whoB (W.must ++ W.should) n <;> rw [hw] at h1 <;> simp at h1 ⊢ <;> omega)
              · obtain ⟨g, e, -, -, -, -⟩ := HS3.out.at (k := 0) (by rw [HSL.out]; omega)
                subst e
                obtain ⟨D0, hD0⟩ : ∃ D, (sortL (W.must ++ W.should)).getD 0 0 = D := ⟨_, rfl⟩
                obtain ⟨D1, hD1⟩ : ∃ D, (sortL (W.must ++ W.should)).getD (nn - 1) 0 = D := ⟨_, rfl⟩
                have HD0 := Lib.hid hD0
                have HD1 := Lib.hid hD1
                rw [hD0, hD1] at HWI
                have u1 : 0 < nn := by omega
                have u2 : wrap64 ((nn : Int) - 1) = ((nn - 1 : Nat) : Int) := (wrap_in (InI.mk (by have := HLB.out; omega) (by have := HLB.out; omega))).trans (by omega)
                have u3 : ((nn - 1 : Nat) : Int) < (nn : Int) := by omega
                have u4 : (0 : Int) ≤ ((nn - 1 : Nat) : Int) := by omega
                clear hD0 hD1
                go_wp2_with (first
                | (go_at_call 36; refine (cloneI_any _ _ _ _ HS3.out (by rw [HSL.out]; exact HLB.out)).mono ?_; rintro e w4 ⟨v4, rfl, hv4, hb4⟩; have HS4 := Lib.hid (HS3.out.call hb4); have HV4 := Lib.hid hv4; have HB4 := Lib.hid (thenB HB3.out hb4); have HW3 := Lib.hid (fun k (h : (Value.slice (some ⟨g, 0, none⟩) (nn) c2).ownBlock = some k) => (World.ownsRow.lt HS3.out k h).2); clear hv4 hb4)
                | (go_at_call 35; refine (compact_any _ _ _ _ HV4.out (by rw [HSL.out]; exact HLB.out)).mono ?_; rintro e w5 ⟨v5, rfl, hv5, hg5⟩; obtain ⟨o5, c5, rfl⟩ := hv5.form; obtain ⟨K, hK⟩ : ∃ K, (Lib.compact (sortL (W.must ++ W.should))).length = K := ⟨_, rfl⟩; have HK := Lib.hid hK; rw [hK]; have HB5 := Lib.hid (HB4.out.grown hg5 HB4.out.size (fun k hk => Nat.le_trans HB3.out.size (World.ownsRow.lt HV4.out k hk).1)); have hs5 : IntL w5 w.heap.size (.slice (some ⟨g, 0, none⟩) (nn) c2) (sortL (W.must ++ W.should)) := World.ownsRow.kept HS4.out hg5 (.inr (by intro e; have e2 : v4.ownBlock = some g := e.symm; have h1 := (World.ownsRow.lt HV4.out g e2).1; have h2 := HW3.out g rfl; omega)); obtain ⟨g1, e1, -, -, p0, -⟩ := hs5.at (k := 0) (by rw [HSL.out]; omega); cases e1; obtain ⟨g2, e2, -, -, p1, -⟩ := hs5.at (k := nn - 1) (by rw [HSL.out]; omega); cases e2; rw [HD0.out] at p0; rw [HD1.out] at p1; clear hs5; clear hv5 hg5 hK))
                all_goals go_meet
                all_goals refine ⟨bvE ?_, HB5⟩
                all_goals (have h1 := HWI.out; rw [HK.out] at h1; cases hw : whoB (W.must ++ W.should) n <;> rw [hw] at h1 <;> simp at h1 ⊢ <;> omega)
            case rest =>
              obtain ⟨rfl, HBX⟩ := hcut
              cases hw : whoB (W.must ++ W.should) n with
              | true =>
                have he : E = 0 := by rw [HE4.out, if_pos hw]
                subst he
                simp only [Bool.not_true]
                go_wp2_with fail
                go_ret
                exact ⟨rfl, HBX.out⟩
              | false =>
                have he : E = 1 := by rw [HE4.out, if_neg (by rw [hw]; decide)]
                subst he
                simp only [Bool.not_false]
                go_wp2_with fail
                go_ret
                exact ⟨rfl, HBX.out⟩
end Go.Proofs.YtbmndenopgkpoaaDoor
