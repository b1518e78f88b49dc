/- The document's spanOK, Member, WantCheck. -/
import Derived.Test.YtbmndenopgkpoaaDoorBsyP
import Derived.Test.YtbmndenopgkpoaaDoorBsyG
namespace Go.Proofs.YtbmndenopgkpoaaDoor
open Go.RowKit Wrk Go.Shelf
theorem getD_mem {l : List Int} {x : Int} (h : ∀ j, j < l.length → l.getD j 0 ≠ x) : x ∉ l := fun hm => by
  obtain ⟨i, hi, e⟩ := mem_at hm
  exact h i hi e
set_option maxHeartbeats 2000000 in
theorem memberI_any (v : Value) (l : List Int) (x : Int) (w : World) (h : IntS w v l) (hl : l.length ≤ 140737488355328) :
    Calls Tryd.prog 24 #[v, .int .i64 x] w fun e w' => e = .returned (.bool (decide (x ∈ l))) ∧ w' = w := by
  obtain ⟨oa, cap, rfl, -, -⟩ := id h
  obtain ⟨n, hn⟩ : ∃ n, l.length = n := ⟨_, rfl⟩
  rw [hn] at h hl ⊢
  have H := Lib.hid h
  have HN := Lib.hid hn
  clear h hn
  go_enter Tryd.func24, Tryd.ntmps24
  go_wp2_with fail
  go_loop [5] (fun c => ∃ k : Nat, c = .int .i64 (k : Int) ∧ k ≤ n ∧ Hid (∀ j, j < k → l.getD j 0 ≠ x)) (fun c => n - (intOf c).toNat)
  case atStart => exact ⟨0, rfl, by omega, Lib.hid fun j hj => by omega⟩
  case round =>
    obtain ⟨k, rfl, hk, HK⟩ := hrel
    by_cases hkn : k < n
    · have hkl : k < l.length := by rw [HN.out]; exact hkn
      obtain ⟨ad, rfl, hc⟩ := H.out.at hkl
      obtain ⟨q, hq⟩ : ∃ q, l.getD k 0 = q := ⟨_, rfl⟩
      rw [hq] at hc
      by_cases hx : q = x
      · have HM : Hid (x ∈ l) := Lib.hid (by rw [← hx, ← hq]; exact at_mem hkl)
        have hb : (q == x) = true := by simpa using hx
        clear hx hq hkl
        go_wp2_with fail
        go_ret
        exact ⟨by rw [decide_eq_true HM.out]; rfl, rfl⟩
      · have HK2 : Hid (∀ j, j < k + 1 → l.getD j 0 ≠ x) := Lib.hid fun j hj => by
          by_cases e : j = k
          · subst e; rw [hq]; exact hx
          · exact HK.out j (by omega)
        have hb : (q == x) = false := by simpa using hx
        clear hx hq hkl
        go_wp2_with fail
        go_round
        case rel => exact ⟨k + 1, by go_num, by omega, HK2⟩
        case measure => simp [intOf]; omega
    · obtain rfl : k = n := by omega
      have HM : Hid (x ∉ l) := Lib.hid (getD_mem (by rw [HN.out]; exact HK.out))
      go_wp2_with fail
      go_ret
      exact ⟨by rw [decide_eq_false HM.out]; rfl, rfl⟩
theorem IntC.toS {w : World} {v : Value} {l : List Int} (h : IntC w v l) : IntS w v l := by
  obtain ⟨ob, cap, h1, h2, h3⟩ := h
  refine ⟨ob, cap, h1, fun h0 => ?_, h3⟩
  cases ob with
  | none => obtain ⟨rfl, _⟩ := h2 rfl; simp at h0
  | some a => exact ⟨a, rfl⟩
/-- The first so many of a list of the call's own. -/
theorem IntL.take {w : World} {b : Nat} {g n cap k : Nat} {l : List Int} (h : IntL w b (.slice (some ⟨g, 0, none⟩) n cap) l) (hk : k ≤ l.length) : IntS w (.slice (some ⟨g, 0, none⟩) k cap) (l.take k) := by
  have hkl : (l.take k).length = k := by rw [List.length_take]; omega
  refine ⟨some ⟨g, 0, none⟩, cap, by rw [hkl], fun _ => ⟨_, rfl⟩, fun a ha => ?_⟩
  injection ha with ha
  subst ha
  rw [hkl]
  refine ⟨fun h0 => ?_, fun j hj => ?_⟩
  · obtain ⟨g', e, -, h1, -, -⟩ := h.at (k := 0) (by omega)
    cases e
    exact h1
  · obtain ⟨g', e, -, -, h1, -⟩ := h.at (k := j) (by omega)
    cases e
    rw [Addr.add_lit, Nat.zero_add, h1]
    simp [List.getD, List.getElem?_take_of_lt hj]
theorem step_append_anyI {P : Program} {ops : Array Oper} {o : Oper} {a : Act} {w : World} {K : Act → World → Prop} {Q : Exit → Act → World → Prop} {E : Prop}
    (hg : o.guard = none) (s x : Operand) (t : TypeId) (hop : o.op = Op.call { callee := Callee.builtin Builtin.append, args := #[s, x], argTypes := #[t, t] })
    (base : Nat) (e : TypeId) (i : TypeInfo) (z : Value) (size bytes : Nat) (h1 : P.underlying t = some (.slice e)) (h2 : P.info? e = some i) (h3 : i.zero = some z) (h4 : i.size = size) (h5 : i.bytes = bytes) (h6 : z.cells.size = size) (h7 : 0 < size)
    (v : Value) (n : Nat) (xs : List Value) (hs : a.eval s = v) (hown : w.ownsRow base e size v n xs)
    (xv : Value) (m : Nat) (news : List Value) (hx : a.eval x = xv)
    (hxv : (xv = .slice none 0 0 ∧ m = 0 ∧ news = []) ∨ ∃ ad c, xv = .slice (some ad) m c ∧ news.length = m * size ∧ (∀ j u, news[j]? = some u → w.cell? (ad.add j) = some u) ∧ ∀ u ∈ news, u.oneCell' = true)
    (b1 : n + m ≤ maxLen) (b2 : (n + m) * bytes ≤ 140737488355328) (hbase : base ≤ w.heap.size)
    (hK : ∀ v' w', w'.ownsRow base e size v' (n + m) (xs ++ news) → w.grownBy w' v.ownBlock → K (a.put o.dst v') w') :
    if Region.wanted o (yielded ops a.tmps) = true then Oper.wp P o a w K Q else E := by
  rcases hxv with ⟨e1, e2, e3⟩ | ⟨ad, c, e1, e2, e3, e4⟩
  · subst e2
    subst e3
    exact step_append_none hg s x t hop base e i size h1 h2 v n xs hs hown (hx.trans e1) (hK v w (by simpa using hown) ⟨rfl, rfl, rfl, Nat.le_refl _, fun _ _ _ => rfl⟩)
  · exact step_append_own hg s x t hop base e i z size bytes h1 h2 h3 h4 h5 h6 h7 v n xs hs hown ad m c news (hx.trans e1) e2 e3 e4 b1 b2 hbase fun v' w' a b _ => hK v' w' a b
/-- Where a list goes wrong. -/
def badAt (l : List Int) (n : Int) (i : Nat) : Prop := l.getD i 0 < 0 ∨ n ≤ l.getD i 0 ∨ l.getD i 0 ∈ l.take i
theorem who_bad {l : List Int} {n : Int} {i : Nat} (hi : i < l.length) (h : badAt l n i) : whoB l n = false := by
  cases hw : whoB l n
  · rfl
  · unfold whoB at hw
    obtain ⟨h1, h2⟩ := of_decide_eq_true hw
    have hm := at_mem hi
    have h3 := h2 _ hm
    rcases h with h | h | h
    · omega
    · omega
    · exfalso
      obtain ⟨j, hj, e⟩ := List.getElem_of_mem h
      rw [List.length_take] at hj
      rw [List.getElem_take] at e
      have h4 := List.pairwise_iff_getElem.1 h1 j i (by omega) hi (by omega)
      apply h4
      rw [e, List.getD_eq_getElem?_getD, List.getElem?_eq_getElem hi]
      rfl
theorem who_good {l : List Int} {n : Int} (h : ∀ i, i < l.length → ¬ badAt l n i) : whoB l n = true := by
  unfold whoB
  refine decide_eq_true ⟨List.pairwise_iff_getElem.2 fun i j hi hj hij e => ?_, fun x hx => ?_⟩
  · refine h j hj (.inr (.inr ?_))
    rw [List.getD_eq_getElem?_getD, List.getElem?_eq_getElem hj, Option.getD_some, ← e]
    exact List.mem_take_iff_getElem.2 ⟨i, by omega, rfl⟩
  · obtain ⟨i, hi, e⟩ := mem_at hx
    have := h i hi
    unfold badAt at this
    rw [e] at this
    exact ⟨by omega, by omega⟩
set_option maxHeartbeats 1000000 in
theorem spanOK_any (a b : Int) (w : World) : Calls Tryd.prog 23 #[.int .i64 a, .int .i64 b] w fun e w' => e = .returned (.int .i64 (if b < a ∨ a < -345600086399 ∨ 345600086399 < b then 4 else 0)) ∧ w = w' := by
  by_cases h : b < a ∨ a < -345600086399 ∨ 345600086399 < b
  · have HE : Hid ((if b < a ∨ a < -345600086399 ∨ 345600086399 < b then (4 : Int) else 0) = 4) := Lib.hid (if_pos h)
    by_cases h1 : b < a
    · clear h
      go_enter Tryd.func23, Tryd.ntmps23
      go_wp2_with fail
      go_ret
      exact ⟨rfl, rfl⟩
    · by_cases h2 : a < -345600086399
      · clear h
        go_enter Tryd.func23, Tryd.ntmps23
        go_wp2_with fail
        go_ret
        exact ⟨rfl, rfl⟩
      · have h3 : 345600086399 < b := by omega
        clear h
        go_enter Tryd.func23, Tryd.ntmps23
        go_wp2_with fail
        go_ret
        exact ⟨rfl, rfl⟩
  · have HE : Hid ((if b < a ∨ a < -345600086399 ∨ 345600086399 < b then (4 : Int) else 0) = 0) := Lib.hid (if_neg h)
    have h1 : ¬ b < a := by omega
    have h2 : ¬ a < -345600086399 := by omega
    have h3 : ¬ 345600086399 < b := by omega
    clear h
    go_enter Tryd.func23, Tryd.ntmps23
    go_wp2_with fail
    go_ret
    exact ⟨rfl, rfl⟩
/-- Both lists in one. -/
def NnPost (wB : World) (l : List Int) (v : Value) (wx : World) : Prop := IntL wx wB.heap.size v l
set_option maxRecDepth 100000 in
set_option maxHeartbeats 16000000 in
theorem wantCheck_any (W : Wnt) (vm vs : Value) (n : Int) (w : World) (hm : IntC w vm W.must) (hs : IntC w vs W.should) (hl : W.must.length + W.should.length ≤ 10000000) :
    Calls Tryd.prog 10 #[wantV W vm vs, .int .i64 n] w fun e w' => e = .returned (.int .i64 (wChk W n)) ∧ Below w.heap.size w w' := by
  obtain ⟨om, cm, rfl⟩ := hm.form
  obtain ⟨os, cs, rfl⟩ := hs.form
  obtain ⟨wB, hwB, ⟨hb0, hlt⟩, f0, f1, f2, f3, f4, f5, f6⟩ := want_cells W (.slice om W.must.length cm) (.slice os W.should.length cs) w
  have HLN := Lib.hid hl
  obtain ⟨nm, hnm⟩ : ∃ x, W.must.length = x := ⟨_, rfl⟩
  obtain ⟨ns, hns⟩ : ∃ x, W.should.length = x := ⟨_, rfl⟩
  obtain ⟨nn, hnn⟩ : ∃ x, (W.must ++ W.should).length = x := ⟨_, rfl⟩
  have HNS := Lib.hid hnn
  have HNM := Lib.hid (And.intro hnm hns)
  rw [hnm] at hm hwB f4 hl ⊢
  rw [hns] at hs hwB f5 hl ⊢
  have HNN : Hid (nm + ns = nn) := Lib.hid (by rw [← hnn, List.length_append, hnm, hns])
  clear hnm hns hnn
  have HB0 := Lib.hid hb0
  have HLT := Lib.hid hlt
  have HM := Lib.hid (hm.call hb0)
  have HS := Lib.hid (hs.call hb0)
  obtain ⟨E, hE⟩ : ∃ E, wChk W n = E := ⟨_, rfl⟩
  rw [hE]
  have HE := Lib.hid hE
  unfold wantV
  obtain ⟨ln, hln⟩ : ∃ x, W.len = x := ⟨_, rfl⟩
  obtain ⟨st, hst⟩ : ∃ x, W.step = x := ⟨_, rfl⟩
  obtain ⟨fr, hfr⟩ : ∃ x, W.frm = x := ⟨_, rfl⟩
  obtain ⟨tt, htt⟩ : ∃ x, W.to = x := ⟨_, rfl⟩
  obtain ⟨se, hse⟩ : ∃ x, W.seats = x := ⟨_, rfl⟩
  unfold wChk at HE
  rw [hln, hst, hfr, htt, hse] at HE
  rw [hln, hst, hfr, htt, hse] at hwB ⊢
  rw [hln] at f0
  rw [hst] at f1
  rw [hfr] at f2
  rw [htt] at f3
  rw [hse] at f6
  have F4 := Lib.hid (And.intro f4 f5)
  have F1 := Lib.hid f1
  obtain ⟨i0, hi0, hz0, hz1, hz2⟩ := info_parts int_infoB
  clear hE hm hs hln hst hfr htt hse hb0 hlt
  go_enter Tryd.func10, Tryd.ntmps10
  go_upto_region 1 with fail
  clear hwB
  go_cut [25] from 8 to 24 (fun q wx => q = .bool (decide (ln < 1 ∨ 34560000 < ln ∨ st < 1 ∨ se < 0)) ∧ wB = wx)
  case first =>
    clear f2 f3 f4 f5
    go_wp2_with fail
    all_goals go_meet
    all_goals exact ⟨bvE (by simp <;> omega), rfl⟩
  case rest =>
    obtain ⟨rfl, rfl⟩ := hcut
    clear f0 f1 f6 f4 f5
    by_cases h1 : ln < 1 ∨ 34560000 < ln ∨ st < 1 ∨ se < 0
    · rw [decide_eq_true h1]
      have he : E = 1 := by rw [← HE.out, if_pos h1]
      subst he
      clear h1
      go_wp2_with fail
      go_ret
      exact ⟨rfl, HB0.out⟩
    · rw [decide_eq_false h1]
      have HE1 := Lib.hid (HE.out.symm.trans (if_neg h1))
      have HST := Lib.hid (show 1 ≤ st by omega)
      clear HE h1
      have CS := Lib.hid (fun w0 => spanOK_any fr tt w0)
      by_cases h2 : tt < fr ∨ fr < -345600086399 ∨ 345600086399 < tt
      · have he : E = 4 := by rw [HE1.out, if_pos h2]
        subst he
        rw [if_pos h2] at CS
        clear h2
        go_wp2_with (go_at_call 23; refine (CS.out _).mono ?_; rintro e w2 ⟨rfl, rfl⟩)
        go_ret
        exact ⟨rfl, HB0.out⟩
      · rw [if_neg h2] at CS
        have HE2 := Lib.hid (HE1.out.trans (if_neg h2))
        have k1 : 0 ≤ tt - fr ∧ tt - fr ≤ 800000000000 := by omega
        have k2 : wrap64 (tt - fr) = tt - fr := wrap_in (InI.mk (by omega) (by omega))
        have k2b : IntKind.i64.wrap (tt - fr) = tt - fr := IntWalk.i64_in _ (by omega)
        have k3 : (tt - fr).tdiv st = (tt - fr) / st := Int.tdiv_eq_ediv_of_nonneg k1.1
        have k4 : 0 ≤ (tt - fr) / st ∧ (tt - fr) / st ≤ 800000000000 := by
          have h1 := HST.out
          exact ⟨Int.ediv_nonneg k1.1 (by omega), Int.le_trans (Int.ediv_le_self _ k1.1) k1.2⟩
        have k5 : wrap64 ((tt - fr) / st) = (tt - fr) / st := wrap_in (InI.mk (by omega) (by omega))
        have k6 : ¬ st = 0 := by have := HST.out; omega
        have f1 := F1.out
        obtain ⟨QQ, hQ⟩ : ∃ x, (tt - fr) / st = x := ⟨_, rfl⟩
        rw [hQ] at k3 k5 HE2
        clear h2 hQ k1 k4
        go_upto_region 6 with (go_at_call 23; refine (CS.out _).mono ?_; rintro e w2 ⟨rfl, rfl⟩)
        have HQ : Hid (10000 < QQ → E = 6) := Lib.hid fun h => by rw [HE2.out, if_pos h]
        by_cases h3 : 10000 < QQ
        · have he := HQ.out h3
          subst he
          go_wp2_with fail
          go_ret
          exact ⟨rfl, HB0.out⟩
        · have HE3 := Lib.hid (HE2.out.trans (if_neg h3))
          have k7 : decide (10000 < QQ) = false := decide_eq_false h3
          clear HQ h3
          go_upto_region 8 with fail
          clear f1 f2 f3 k2 k2b k3 k5 k6 k7 HE2 HE1
          obtain ⟨f4, f5⟩ := F4.out
          have hszB : w.heap.size < wB.heap.size := HLT.out
          have HCC : Hid (∀ wx, Below wB.heap.size wB wx → wx.cell? ⟨w.heap.size, 4, none⟩ = some (.slice om nm cm) ∧ wx.cell? ⟨w.heap.size, 5, none⟩ = some (.slice os ns cs)) := Lib.hid fun wx hb => ⟨(hb.cell (p := ⟨w.heap.size, 4, none⟩) hszB).trans f4, (hb.cell (p := ⟨w.heap.size, 5, none⟩) hszB).trans f5⟩
          have HN1 : Hid (∀ wx, Below wB.heap.size wB wx → ((Value.slice om nm cm = .slice none 0 0 ∧ nm = 0 ∧ intV W.must = []) ∨ ∃ ad c, Value.slice om nm cm = .slice (some ad) nm c ∧ (intV W.must).length = nm * 1 ∧ (∀ j u, (intV W.must)[j]? = some u → wx.cell? (ad.add j) = some u) ∧ ∀ u ∈ intV W.must, u.oneCell' = true)) := Lib.hid fun wx hb => by
            have h := (HM.out.call hb).news
            rw [HNM.out.1] at h
            exact h
          have HN2 : Hid (∀ wx, Below wB.heap.size wB wx → ((Value.slice os ns cs = .slice none 0 0 ∧ ns = 0 ∧ intV W.should = []) ∨ ∃ ad c, Value.slice os ns cs = .slice (some ad) ns c ∧ (intV W.should).length = ns * 1 ∧ (∀ j u, (intV W.should)[j]? = some u → wx.cell? (ad.add j) = some u) ∧ ∀ u ∈ intV W.should, u.oneCell' = true)) := Lib.hid fun wx hb => by
            have h := (HS.out.call hb).news
            rw [HNM.out.2] at h
            exact h
          have HF : Hid (∀ (w3 : World) (v3 : Value), w3.ownsRow wB.heap.size 3 1 v3 (0 + nm + ns) ([] ++ intV W.must ++ intV W.should) → NnPost wB (W.must ++ W.should) v3 w3) := Lib.hid fun w3 v3 h => by
            unfold NnPost IntL
            rw [HNS.out, ← HNN.out]
            have e2 : intV (W.must ++ W.should) = [] ++ intV W.must ++ intV W.should := by simp [intV]
            rw [e2, ← Nat.zero_add nm]
            exact h
          have HI := Lib.hid (And.intro hi0 (And.intro hz0 (And.intro hz1 hz2)))
          have b1 : nm ≤ 10000000 := by omega
          have b2 : nm + ns ≤ 10000000 := hl
          clear hl f4 f5 hszB
          go_cut [6] from 43 to 49 (fun q wx => NnPost wB (W.must ++ W.should) q wx ∧ Below wB.heap.size wB wx)
          case first =>
            go_region_held3 (fun w' => w'.cell? ⟨w.heap.size, 4, none⟩ = some (.slice om nm cm) ∧ w'.cell? ⟨w.heap.size, 5, none⟩ = some (.slice os ns cs)) (exact HCC.out _ (by repeat (first | with_reducible exact Below.refl _ _ | with_reducible exact hb2.out | with_reducible exact hb1.out | (with_reducible refine Below.drew ?_) | (with_reducible refine Below.alloc ?_ (by first | exact Nat.le_refl _ | (simp <;> omega)) _)))) (first
              | (refine step_append_anyI rfl (.tmp 43) (.tmp 45) 23 rfl wB.heap.size 3 i0 (.int .i64 0) 1 8 Tryd.underlying23 HI.out.1 HI.out.2.1 HI.out.2.2.1 HI.out.2.2.2 rfl (by decide) (.slice (some ⟨wB.heap.size, 0, none⟩) 0 0) 0 [] (by simp [Act.eval]) ?_ (.slice om nm cm) nm (intV W.must) (by simp [Act.eval]) (HN1.out _ (by repeat (first | with_reducible exact Below.refl _ _ | (with_reducible refine Below.drew ?_) | (with_reducible refine Below.alloc ?_ (by first | exact Nat.le_refl _ | (simp <;> omega)) _)))) (by unfold maxLen; omega) (by omega) (by first | (simp; done) | (simp; omega)) ?_
                 · first | exact World.ownsRow.drew (own_empty _ _ _ _ (by simp)) | exact own_empty _ _ _ _ (by simp) | exact World.ownsRow.drew ((own_empty _ _ _ _ (by simp)).alloc _)
                 intro v1 w1 hown1 hg1
                 have hb1 := Lib.hid (Below.grown (B := wB.heap.size) (a := wB) (by repeat (first | with_reducible exact Below.refl _ _ | (with_reducible refine Below.drew ?_) | (with_reducible refine Below.alloc ?_ (by first | exact Nat.le_refl _ | (simp <;> omega)) _))) hg1 (by first | (simp; done) | (simp; omega)) (by intro k hk; simp [Value.ownBlock] at hk; omega))
                 clear hg1)
              | (refine step_append_anyI rfl (.tmp 46) (.tmp 48) 23 rfl wB.heap.size 3 i0 (.int .i64 0) 1 8 Tryd.underlying23 HI.out.1 HI.out.2.1 HI.out.2.2.1 HI.out.2.2.2 rfl (by decide) v1 (0 + nm) ([] ++ intV W.must) (by simp [Act.eval]) (by first | exact hown1 | exact World.ownsRow.drew hown1) (.slice os ns cs) ns (intV W.should) (by simp [Act.eval]) (HN2.out _ (by repeat (first | with_reducible exact hb1.out | (with_reducible refine Below.drew ?_)))) (by unfold maxLen; omega) (by omega) (by have := hb1.out.size; first | omega | (simp; omega)) ?_
                 intro v2 w2 hown2 hg2
                 have hb2 := Lib.hid (Below.grown (B := wB.heap.size) (a := wB) (by repeat (first | with_reducible exact hb1.out | (with_reducible refine Below.drew ?_))) hg2 (by have := hb1.out.size; first | omega | (simp; omega)) (fun k hk => (hown1.lt k hk).1))
                 clear hg2))
            all_goals go_wp2_with fail
            all_goals go_meet
            all_goals exact ⟨HF.out _ _ hown2, hb2.out⟩
          case rest =>
            obtain ⟨hNP, hBC⟩ := hcut
            unfold NnPost at hNP
            obtain ⟨oa, cap, e6⟩ := hNP.form
            rw [HNS.out] at e6
            subst e6
            have HV := Lib.hid hNP
            have HBW := Lib.hid (HB0.out.trans (hBC.mono (Nat.le_of_lt HLT.out)))
            clear hNP hBC
            obtain ⟨LL, hLL⟩ : ∃ x, W.must ++ W.should = x := ⟨_, rfl⟩
            rw [hLL] at HE3 HNS HV
            have hnl : nn ≤ 10000000 := by have := HNN.out; omega
            clear hLL HCC HN1 HN2 HF HM HS F4 F1 HNM HNN HLN
            go_upto_region 9 with fail
            go_wp2_with fail
            go_loopw [7] (fun c wr => ∃ i : Nat, c = .int .i64 (i : Int) ∧ i ≤ nn ∧ Hid (∀ j, j < i → ¬ badAt LL n j) ∧ Hid (IntL wr wB.heap.size (.slice oa nn cap) LL) ∧ Hid (Below w.heap.size w wr)) (fun c _ => nn - (intOf c).toNat)
            case atStart => exact ⟨0, rfl, by omega, Lib.hid fun j h => absurd h (by omega), HV, HBW⟩
            case round =>
              obtain ⟨i, rfl, hi, HI0, HV1, HB1⟩ := hrel
              by_cases hin : i < nn
              · have hil : i < LL.length := by rw [HNS.out]; exact hin
                obtain ⟨g, rfl, h1, h2, h3, h4⟩ := HV1.out.at hil
                have hcap : nn ≤ cap := by
                  rcases HV1.out.2 with ⟨h, _⟩ | ⟨_, _, _, h, _, _, h5, _⟩
                  · cases h
                  · cases h
                    rw [HNS.out] at h5
                    exact h5
                obtain ⟨X, hX⟩ : ∃ x, LL.getD i 0 = x := ⟨_, rfl⟩
                rw [hX] at h3
                obtain ⟨MB, hMB⟩ : ∃ x, decide (X ∈ LL.take i) = x := ⟨_, rfl⟩
                obtain ⟨TB, hTB⟩ : ∃ x, decide (X < 0 ∨ n ≤ X ∨ MB = true) = x := ⟨_, rfl⟩
                have HT := Lib.hid hTB
                have HBT : Hid (TB = true ↔ badAt LL n i) := Lib.hid (by
                  rw [← hTB, ← hMB]
                  unfold badAt
                  rw [hX]
                  simp)
                have HTK : Hid (IntS wr (.slice (some ⟨g, 0, none⟩) i cap) (LL.take i)) := Lib.hid (HV1.out.take (by omega))
                have CM : Hid (∀ w0, Below wr.heap.size wr w0 → Calls Tryd.prog 24 #[.slice (some ⟨g, 0, none⟩) i cap, .int .i64 X] w0 fun e w' => e = .returned (.bool MB) ∧ Below w0.heap.size w0 w') := Lib.hid fun w0 hb => by
                  rw [← hMB]
                  exact (memberI_any _ _ X w0 (HTK.out.call hb) (by rw [List.length_take]; omega)).mono fun e w' h => ⟨h.1, by rw [h.2]; exact Below.refl _ _⟩
                have k1 : (i : Int) < (nn : Int) := by omega
                have k2 : (0 : Int) ≤ (i : Int) := by omega
                have k3 : (i : Int) ≤ (cap : Int) := by omega
                have s1 := cell_regrown h3
                obtain ⟨wA, hwA⟩ : ∃ x : World, x = wr := ⟨_, rfl⟩
                subst hwA
                clear h1 h2 h3 h4 hX hMB hTB hil HTK hcap
                go_upto_region 12 with fail
                go_cut [78] from 56 to 77 (fun q wx => q = .bool TB ∧ Hid (Below wA.heap.size wA wx))
                case first =>
                  by_cases q1 : X < 0
                  · have eT : TB = true := by rw [← HT.out]; exact decide_eq_true (.inl q1)
                    have d1 : decide (X < 0) = true := decide_eq_true q1
                    subst eT
                    refine wp_region_below (by kernel_rfl) (by kernel_rfl) ?_
                    repeat (go_big_quiet_step ((go_at_call 24; exact Calls.regrown_of (by with_reducible exact CM.out _ (below_regrown _ _ _)))))
                    refine wpQuiet_nil ?_
                    intro w1 hb1
                    go_wp2_with fail
                    go_meet
                    exact ⟨rfl, Lib.hid hb1⟩
                  · have d1 : decide (X < 0) = false := decide_eq_false q1
                    by_cases q2 : n ≤ X
                    · have eT : TB = true := by rw [← HT.out]; exact decide_eq_true (.inr (.inl q2))
                      have d2 : decide (n ≤ X) = true := decide_eq_true q2
                      subst eT
                      refine wp_region_below (by kernel_rfl) (by kernel_rfl) ?_
                      repeat (go_big_quiet_step ((go_at_call 24; exact Calls.regrown_of (by with_reducible exact CM.out _ (below_regrown _ _ _)))))
                      refine wpQuiet_nil ?_
                      intro w1 hb1
                      go_wp2_with fail
                      go_meet
                      exact ⟨rfl, Lib.hid hb1⟩
                    · have d2 : decide (n ≤ X) = false := decide_eq_false q2
                      have eT : TB = MB := by rw [← HT.out]; simp [q1, q2]
                      subst eT
                      refine wp_region_below (by kernel_rfl) (by kernel_rfl) ?_
                      repeat (go_big_quiet_step ((go_at_call 24; exact Calls.regrown_of (by with_reducible exact CM.out _ (below_regrown _ _ _)))))
                      refine wpQuiet_nil ?_
                      intro w1 hb1
                      go_wp2_with fail
                      go_meet
                      exact ⟨rfl, Lib.hid hb1⟩
                case rest =>
                  obtain ⟨rfl, hbX⟩ := hcut
                  have HB2 := Lib.hid (HB1.out.trans (hbX.out.mono (by have := HB1.out.size; omega)))
                  have HV2 := Lib.hid (HV1.out.call hbX.out)
                  clear hbX HV1 HB1 CM s1
                  cases TB with
                  | true =>
                    have he : E = 1 := by rw [HE3.out, who_bad (by rw [HNS.out]; exact hin) (HBT.out.1 rfl)]; rfl
                    subst he
                    go_wp2_with fail
                    go_ret
                    exact ⟨rfl, HB2.out⟩
                  | false =>
                    have HI1 : Hid (∀ j, j < i + 1 → ¬ badAt LL n j) := Lib.hid fun j hj => by
                      by_cases e : j = i
                      · subst e
                        exact fun h => by cases HBT.out.2 h
                      · exact HI0.out j (by omega)
                    go_wp2_with fail
                    go_round
                    case rel => exact ⟨i + 1, by go_num, by omega, HI1, HV2, HB2⟩
                    case measure => simp [intOf]; omega
              · obtain rfl : i = nn := by omega
                have he : E = 0 := by rw [HE3.out, who_good (by rw [HNS.out]; exact HI0.out)]; rfl
                subst he
                go_wp2_with fail
                go_ret
                exact ⟨rfl, HB1.out⟩
end Go.Proofs.YtbmndenopgkpoaaDoor
