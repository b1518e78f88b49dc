/- The document's clip and add. -/
import Derived.Test.YtbmndenopgkpoaaDoorBsyE
import Derived.Test.YtbmndenopgkpoaaDoorBsyH
import Derived.BigRegion
namespace Go.Proofs.YtbmndenopgkpoaaDoor
open Go.RowKit Wrk Go.Shelf
set_option maxHeartbeats 400000 in
theorem rclip_any (n : Int) (w : World) : Calls Tryd.prog 16 #[.int .i64 n] w fun e w' => e = .returned (.int .i64 (clipM n)) ∧ w = w' := by
  by_cases h1 : n < -1152921504606846976
  · have HE : Hid (clipM n = -1152921504606846976) := Lib.hid (by unfold clipM loM hiM; omega)
    go_enter Tryd.func16, Tryd.ntmps16
    go_wp2_with fail
    go_ret
    exact ⟨by rw [HE.out]; rfl, rfl⟩
  · by_cases h2 : 1152921504606846976 < n
    · have HE : Hid (clipM n = 1152921504606846976) := Lib.hid (by unfold clipM loM hiM; omega)
      go_enter Tryd.func16, Tryd.ntmps16
      go_wp2_with fail
      go_ret
      exact ⟨by rw [HE.out]; rfl, rfl⟩
    · have HE : Hid (clipM n = n) := Lib.hid (by unfold clipM loM hiM; omega)
      go_enter Tryd.func16, Tryd.ntmps16
      go_wp2_with fail
      go_ret
      exact ⟨by rw [HE.out]; rfl, rfl⟩
/-- Spans of the call's own. -/
def IvL (w : World) (b : Nat) (v : Value) (l : List Iv) : Prop := w.ownsRow b 55 2 v l.length (ivV l)
theorem IvL.call {w w' : World} {b : Nat} {v : Value} {l : List Iv} (h : IvL w b v l) (hb : Below w.heap.size w w') : IvL w' b v l := ivOwn_call h hb
theorem IvL.nil (w : World) (b : Nat) : IvL w b (.slice none 0 0) [] := World.ownsRow_nil _ _ _ _
theorem IvL.form {w : World} {b : Nat} {v : Value} {l : List Iv} (h : IvL w b v l) : ∃ oa cap, v = .slice oa l.length cap := by
  rcases h.2 with ⟨rfl, h0⟩ | ⟨g, cap, cur, rfl, _⟩
  · exact ⟨none, 0, by rw [h0]⟩
  · exact ⟨_, cap, rfl⟩
theorem IvL.low {w : World} {b c : Nat} {v : Value} {l : List Iv} (h : IvL w c v l) (hb : b ≤ c) : IvL w b v l := by
  refine ⟨h.1, ?_⟩
  rcases h.2 with h2 | ⟨g, cap, cur, h3, h4, h5⟩
  · exact .inl h2
  · exact .inr ⟨g, cap, cur, h3, Nat.le_trans hb h4, h5⟩
theorem IvL.far {w : World} {b : Nat} {v : Value} {l : List Iv} (h : IvL w b v l) {p : Addr} (hp : p.block < b) (u : Value) : IvL (w.setCell p u) b v l :=
  ivOwn_far h (fun k hk => by have := (World.ownsRow.lt h k hk).1; omega) u
theorem IvL.of {w : World} {b : Nat} {v : Value} {l : List Iv} {n : Nat} {xs : List Value} (h : w.ownsRow b 55 2 v n xs) (hn : l.length = n) (hx : ivV l = xs) : IvL w b v l := by unfold IvL; rw [hn, hx]; exact h
theorem IvL.toS {w : World} {b : Nat} {v : Value} {l : List Iv} (h : IvL w b v l) : IvS w v l := IvS.own h
theorem IvL.shape {w : World} {b : Nat} {v : Value} {l : List Iv} (h : IvL w b v l) : ∀ ob n cap, v = .slice ob n cap → (ob = none ∧ n = 0 ∧ cap = 0) ∨ ∃ g, ob = some ⟨g, 0, none⟩ ∧ n ≤ cap := by
  rintro ob n cap rfl
  rcases h.2 with ⟨e, h0⟩ | ⟨g, cap', cur, e, _, _, h1, _⟩
  · cases e
    exact .inl ⟨rfl, rfl, rfl⟩
  · cases e
    exact .inr ⟨g, rfl, h1⟩
/-- The spans from one on, as the cells to be appended. -/
theorem ivV_drop (l : List Iv) (j : Nat) : ivV (l.drop j) = (ivV l).drop (j * 2) := by
  induction j generalizing l with
  | zero => simp
  | succ j ih =>
    cases l with
    | nil => simp [ivV]
    | cons p l => rw [List.drop_succ_cons, ih]; simp [ivV, Nat.succ_mul]
theorem news_drop {w : World} {g n cap j : Nat} {l : List Iv} (hn : l.length = n) (h : IvS w (.slice (some ⟨g, 0, none⟩) n cap) l) (c : Nat) : ∃ ad c', Value.slice (some ⟨g, j * 2, none⟩) (n - j) c = .slice (some ad) (n - j) c' ∧ (ivV (l.drop j)).length = (n - j) * 2 ∧ (∀ q u, (ivV (l.drop j))[q]? = some u → w.cell? (ad.add q) = some u) ∧ ∀ u ∈ ivV (l.drop j), u.oneCell' = true := by
  subst hn
  refine ⟨⟨g, j * 2, none⟩, c, rfl, by rw [ivV_len, List.length_drop], fun q u hq => ?_, ivV_one _⟩
  rcases h.news with ⟨e, _⟩ | ⟨ad, c2, e, _, h2, _⟩
  · cases e
  · cases e
    rw [ivV_drop, List.getElem?_drop] at hq
    have h3 := h2 _ _ hq
    rw [Addr.add_lit] at h3 ⊢
    rw [Nat.zero_add] at h3
    exact h3
/-- A box of a span. -/
structure PB (w : World) (Z : Nat) (a b : Int) : Prop where
  c0 : w.cell? ⟨Z, 0, none⟩ = some (.int .i64 a)
  c1 : w.cell? ⟨Z, 1, none⟩ = some (.int .i64 b)
  f0 : w.frozen? ⟨Z, 0, none⟩ = false
  f1 : w.frozen? ⟨Z, 1, none⟩ = false
theorem PB.new (w : World) (a b : Int) : PB (w.alloc (.cells #[.int .i64 a, .int .i64 b] 55)) w.heap.size a b := ⟨by simp, by simp, by simp, by simp⟩
theorem PB.call {w w' : World} {Z N : Nat} {a b : Int} (h : PB w Z a b) (hb : Below N w w') (hZ : Z < N) : PB w' Z a b :=
  ⟨(hb.cell (p := ⟨Z, 0, none⟩) hZ).trans h.c0, (hb.cell (p := ⟨Z, 1, none⟩) hZ).trans h.c1, (hb.frozen (p := ⟨Z, 0, none⟩) hZ).trans h.f0, (hb.frozen (p := ⟨Z, 1, none⟩) hZ).trans h.f1⟩
theorem PB.set {w : World} {Z : Nat} {a b : Int} (h : PB w Z a b) (x y : Int) : PB ((w.setCell ⟨Z, 0, none⟩ (.int .i64 x)).setCell ⟨Z, 1, none⟩ (.int .i64 y)) Z x y := by
  have n01 : (⟨Z, 0, none⟩ : Addr) ≠ ⟨Z, 1, none⟩ := by simp
  refine ⟨?_, ?_, by simp [h.f0], by simp [h.f1]⟩
  · exact (World.cell?_setCell_other _ _ _ _ n01.symm).trans (World.cell?_setCell_same _ _ _ h.c0)
  · exact World.cell?_setCell_same _ _ _ ((World.cell?_setCell_other _ _ _ _ n01).trans h.c1)
/-- A box of one cell. -/
def One (w : World) (Z : Nat) (v : Value) : Prop := w.cell? ⟨Z, 0, none⟩ = some v ∧ w.frozen? ⟨Z, 0, none⟩ = false
theorem One.new (w : World) (v : Value) (t : TypeId) : One (w.alloc (.cells #[v] t)) w.heap.size v := ⟨by simp, by simp⟩
theorem One.call {w w' : World} {Z N : Nat} {v : Value} (h : One w Z v) (hb : Below N w w') (hZ : Z < N) : One w' Z v := ⟨(hb.cell (p := ⟨Z, 0, none⟩) hZ).trans h.1, (hb.frozen (p := ⟨Z, 0, none⟩) hZ).trans h.2⟩
theorem One.far {w : World} {Z Y o : Nat} {v : Value} (h : One w Z v) (hz : Y ≠ Z) (u : Value) : One (w.setCell ⟨Y, o, none⟩ u) Z v := ⟨(World.cell?_setCell_far _ ⟨Y, o, none⟩ ⟨Z, 0, none⟩ _ hz).trans h.1, by simp [h.2]⟩
theorem One.set {w : World} {Z : Nat} {v : Value} (h : One w Z v) (u : Value) : One (w.setCell ⟨Z, 0, none⟩ u) Z u := ⟨World.cell?_setCell_same _ _ _ h.1, by simp [h.2]⟩
/-- What is handed back: a set of the call's own. -/
def TimP (l : List Iv) (w : World) (e : Ending) (w' : World) : Prop := ∃ v, e = .returned (.agg #[v]) ∧ IvL w' w.heap.size v l ∧ Below w.heap.size w w'
set_option maxRecDepth 100000 in
set_option maxHeartbeats 16000000 in
theorem add_any (b : Nat) (v0 : Value) (L : List Iv) (s : Iv) (w : World) (h0 : IvL w b v0 L) (hl : L.length ≤ 1000000) :
    Calls Tryd.prog 17 #[.agg #[v0], .agg #[.int .i64 s.1, .int .i64 s.2]] w (TimP (addD L s) w) := by
  have HSh := Lib.hid (IvL.shape h0)
  obtain ⟨ob, cap, rfl, hnil, hR⟩ := h0.toS
  obtain ⟨n, hn⟩ : ∃ n, L.length = n := ⟨_, rfl⟩
  obtain ⟨⟨S1, S2⟩, hs⟩ : ∃ q, s = q := ⟨_, rfl⟩
  subst hs
  have HN := Lib.hid hn
  rw [hn] at hl HSh ⊢
  simp only
  obtain ⟨wC, hwC⟩ : ∃ W, ((w.alloc (.cells #[.slice ob n cap] 36)).alloc (.cells #[.int .i64 S1, .int .i64 S2] 55)).alloc (.cells #[.slice none 0 0] 36) = W := ⟨_, rfl⟩
  obtain ⟨z, hz⟩ : ∃ z, w.heap.size = z := ⟨_, rfl⟩
  have b1 : Below w.heap.size w (w.alloc (.cells #[.slice ob n cap] 36)) := (Below.refl _ w).alloc (Nat.le_refl _) _
  have HBC : Hid (Below z w wC) := Lib.hid (by rw [← hwC, ← hz]; exact (((Below.refl _ w).alloc (Nat.le_refl _) _).alloc (by simp) _).alloc (by simp; omega) _)
  obtain ⟨w1, hw1⟩ : ∃ W, w.alloc (.cells #[.slice ob n cap] 36) = W := ⟨_, rfl⟩
  obtain ⟨w2, hw2⟩ : ∃ W, w1.alloc (.cells #[.int .i64 S1, .int .i64 S2] 55) = W := ⟨_, rfl⟩
  have e1 : w1.heap.size = z + 1 := by rw [← hw1, ← hz]; simp
  have e2 : w2.heap.size = z + 2 := by rw [← hw2]; simp [e1]
  have hwC' := hwC
  rw [hw1, hw2] at hwC'
  have o1 : One w1 z (.slice ob n cap) := by rw [← hw1, ← hz]; exact One.new _ _ _
  have o2 : PB w2 (z + 1) S1 S2 := by rw [← hw2, ← e1]; exact PB.new _ _ _
  have o3 : One wC (z + 2) (.slice none 0 0) := by rw [← hwC', ← e2]; exact One.new _ _ _
  have bw2 : Below (z + 1) w1 w2 := by rw [← hw2]; exact (Below.refl _ _).alloc (by omega) _
  have bwC : Below (z + 2) w2 wC := by rw [← hwC']; exact (Below.refl _ _).alloc (by omega) _
  have HT0 : Hid (One wC z (.slice ob n cap)) := Lib.hid ((o1.call bw2 (by omega)).call bwC (by omega))
  have HS0 : Hid (PB wC (z + 1) S1 S2) := Lib.hid (o2.call bwC (by omega))
  have HR0 : Hid (One wC (z + 2) (.slice none 0 0)) := Lib.hid o3
  have HSC : Hid (wC.heap.size = z + 3) := Lib.hid (by rw [← hwC']; simp [e2])
  clear b1 o1 o2 o3 bw2 bwC hwC' e1 e2 hw1 hw2
  have HI : Hid (∀ w', Below z w w' → IvR w' ob L) := Lib.hid fun w' hb => hR.call (by rw [hz]; exact hb)
  have HZ := Lib.hid hz
  obtain ⟨i0, hi0, hz0, hz1, hz2⟩ := info_parts span_info2
  clear hn hR hnil
  go_enter Tryd.func17, Tryd.ntmps17
  go_upto_region 3 with fail
  try simp only [hwC, hz]
  clear hwC hz
  go_loopw [5, 6] (fun v c wr => ∃ i : Nat, c = .int .i64 (i : Int) ∧ i ≤ n ∧ Hid (IvL wr wC.heap.size v (L.take i)) ∧ Hid (∀ k, k < i → (L.getD k iv0).2 < S1) ∧ Hid (Below wC.heap.size wC wr)) (fun _ c _ => n - (intOf c).toNat)
  case atStart => exact ⟨0, rfl, by omega, Lib.hid (IvL.nil _ _), Lib.hid (fun k h => absurd h (by omega)), Lib.hid (Below.refl _ _)⟩
  case round =>
    obtain ⟨i, rfl, hi, HV, HA, HBk⟩ := hrel
    have HTr := Lib.hid (HT0.out.call HBk.out (by have := HSC.out; omega))
    have HSr := Lib.hid (HS0.out.call HBk.out (by have := HSC.out; omega))
    have HIr := Lib.hid (HI.out wr (HBC.out.trans (HBk.out.mono (by have := HSC.out; omega))))
    obtain ⟨TB, hTB⟩ : ∃ b : Bool, decide (i < n ∧ (L.getD i iv0).2 < S1) = b := ⟨_, rfl⟩
    have HTB := Lib.hid hTB
    have g0 := cell_regrown HTr.out.1
    have s0 := cell_regrown HSr.out.c0
    clear hTB
    go_upto_region 3 with fail
    go_cut [22] from 7 to 21 (fun q wx => q = .bool TB ∧ Hid (Below wr.heap.size wr wx))
    case first =>
      by_cases hin : i < n
      · obtain ⟨a, rfl⟩ : ∃ a, ob = some a := HIr.out.1 (by rw [HN.out]; omega)
        obtain ⟨c1, c2⟩ := HIr.out.at (i := i) (by rw [HN.out]; exact hin)
        obtain ⟨x, hx⟩ : ∃ x, L.getD i iv0 = x := ⟨_, rfl⟩
        rw [hx] at c1 c2 HTB
        have d2 := cell_regrown c2
        have k1 : (i : Int) < (n : Int) := by omega
        have k2 : (0 : Int) ≤ (i : Int) := by omega
        have eT : TB = decide (x.2 < S1) := by rw [← HTB.out]; simp [hin]
        subst eT
        clear c1 c2 hx
        refine wp_region_below (by kernel_rfl) (by kernel_rfl) ?_
        repeat (go_big_quiet_step (fail))
        refine wpQuiet_nil ?_
        intro w1 hb1
        go_wp2_with fail
        go_meet
        exact ⟨rfl, Lib.hid hb1⟩
      · have eT : TB = false := by rw [← HTB.out]; simp [hin]
        subst eT
        have k1 : ¬ (i : Int) < (n : Int) := by omega
        refine wp_region_below (by kernel_rfl) (by kernel_rfl) ?_
        repeat (go_big_quiet_step (fail))
        refine wpQuiet_nil ?_
        intro w1 hb1
        go_wp2_with fail
        go_meet
        exact ⟨rfl, Lib.hid hb1⟩
    case rest =>
      obtain ⟨rfl, HBX⟩ := hcut
      have HBc := Lib.hid (HBk.out.trans (HBX.out.mono HBk.out.size))
      have HTc := Lib.hid (HT0.out.call HBc.out (by have := HSC.out; omega))
      have HVc := Lib.hid (HV.out.call HBX.out)
      have HIc := Lib.hid (HI.out wc (HBC.out.trans (HBc.out.mono (by have := HSC.out; omega))))
      clear g0 s0
      cases TB with
      | true =>
        obtain ⟨hin, hlt⟩ := of_decide_eq_true HTB.out
        obtain ⟨a, rfl⟩ : ∃ a, ob = some a := HIc.out.1 (by rw [HN.out]; omega)
        obtain ⟨c1, c2⟩ := HIc.out.at (i := i) (by rw [HN.out]; exact hin)
        have HA2 : Hid (∀ k, k < i + 1 → (L.getD k iv0).2 < S1) := Lib.hid fun k hk => by
          by_cases e : k = i
          · subst e; exact hlt
          · exact HA.out k (by omega)
        have HTK : Hid (L.take (i + 1) = L.take i ++ [L.getD i iv0]) := Lib.hid (by rw [List.take_add_one, iv_getB (by rw [HN.out]; exact hin)]; rfl)
        obtain ⟨x, hx⟩ : ∃ x, L.getD i iv0 = x := ⟨_, rfl⟩
        rw [hx] at c1 c2 HTK
        have t0 := HTc.out.1
        have HLEN : Hid ((L.take i).length = i) := Lib.hid (by rw [List.length_take, HN.out]; omega)
        have k1 : (i : Int) < (n : Int) := by omega
        have k2 : (0 : Int) ≤ (i : Int) := by omega
        have hsz : wC.heap.size ≤ wc.heap.size := HBc.out.size
        clear hx hlt
        go_wp2_with (at_builtin; refine wpList_append_lies _ rfl (.tmp 23) (.tmp 29) 29 rfl wC.heap.size 55 i0 (.agg #[.int .i64 0, .int .i64 0]) 2 16 Tryd.underlying29 hi0 hz0 hz1 hz2 rfl (by decide) _ i (ivV (L.take i)) rfl ((show World.ownsRow _ _ _ _ _ i _ by have h := HVc.out; unfold IvL at h; rw [HLEN.out] at h; exact h).alloc _) _ 1 1 [.int .i64 x.1, .int .i64 x.2] rfl rfl (cells_ivs (by simp) _ _) (by simp [Value.oneCell']) (by decide) (by unfold maxLen; omega) (by omega) (by simp; omega) (wc.heap.size + 1) (by simp) ?_; intro g5 c5 w5 hown hgrow hat hlt5; have HOW := Lib.hid hown; have HB5 := Lib.hid (((HBc.out.alloc hsz _).grown hgrow (by simp; omega) (fun j hj => (World.ownsRow.lt HVc.out j hj).1))); clear hown hgrow hat hlt5)
        go_roundw
        case rel => exact ⟨i + 1, by go_num, by omega, Lib.hid (by unfold IvL; rw [HTK.out, List.length_append, HLEN.out, ivV_append]; exact HOW.out), HA2, HB5⟩
        case measure => simp [intOf]; omega
      | false =>
        have hno := of_decide_eq_false HTB.out
        have HLEN : Hid ((L.take i).length = i) := Lib.hid (by rw [List.length_take, HN.out]; omega)
        have HTURN : Hid (addD L (S1, S2) = L.take i ++ addE (L.drop i) (S1, S2)) := Lib.hid (by rw [addD_pass (i := i) (by rw [HN.out]; exact hi) HA.out, addD_turn (fun h g => hno ⟨by rw [← HN.out]; exact h, g⟩)])
        obtain ⟨o5, c5, rfl⟩ := HVc.out.form
        rw [HLEN.out] at HVc ⊢
        have HSc := Lib.hid (HS0.out.call HBc.out (by have := HSC.out; omega))
        have HRc := Lib.hid (HR0.out.call HBc.out (by have := HSC.out; omega))
        have HBw := Lib.hid (HBC.out.trans (HBc.out.mono (by have := HSC.out; omega)))
        have HSZ := Lib.hid HBc.out.size
        clear hno
        go_upto_region 6 with fail
        go_loopw [6] (fun c wr => ∃ (j : Nat) (m1 m2 : Int), c = .int .i64 (j : Int) ∧ i ≤ j ∧ j ≤ n ∧ Hid (PB wr (z + 1) m1 m2) ∧ Hid (addE (L.drop i) (S1, S2) = addE (L.drop j) (m1, m2)) ∧ Hid (IvL wr wC.heap.size (.slice o5 i c5) (L.take i)) ∧ Hid (One wr z (.slice ob n cap)) ∧ Hid (One wr (z + 2) (.slice none 0 0)) ∧ Hid (Below z w wr) ∧ Hid (wC.heap.size ≤ wr.heap.size)) (fun c _ => n - (intOf c).toNat)
        case atStart => exact ⟨i, S1, S2, rfl, Nat.le_refl _, hi, HSc, Lib.hid rfl, HVc, HTc, HRc, HBw, HSZ⟩
        case round =>
          obtain ⟨j, m1, m2, rfl, hij, hj, HP, HE, HV2, HT2, HR2, HB2, HS2⟩ := hrel
          have HIr := Lib.hid (HI.out wr HB2.out)
          obtain ⟨T2, hT2⟩ : ∃ b : Bool, decide (j < n ∧ (L.getD j iv0).1 ≤ m2) = b := ⟨_, rfl⟩
          have HTT := Lib.hid hT2
          have g0 := cell_regrown HT2.out.1
          have s1 := cell_regrown HP.out.c1
          clear hT2
          go_upto_region 6 with fail
          go_cut [48] from 33 to 47 (fun q wx => q = .bool T2 ∧ Hid (Below wr.heap.size wr wx))
          case first =>
            by_cases hjn : j < n
            · obtain ⟨a, rfl⟩ : ∃ a, ob = some a := HIr.out.1 (by rw [HN.out]; omega)
              obtain ⟨c1, c2⟩ := HIr.out.at (i := j) (by rw [HN.out]; exact hjn)
              obtain ⟨x, hx⟩ : ∃ x, L.getD j iv0 = x := ⟨_, rfl⟩
              rw [hx] at c1 c2 HTT
              have d1 := cell_regrown c1
              have k1 : (j : Int) < (n : Int) := by omega
              have k2 : (0 : Int) ≤ (j : Int) := by omega
              have eT : T2 = decide (x.1 ≤ m2) := by rw [← HTT.out]; simp [hjn]
              subst eT
              clear c1 c2 hx
              refine wp_region_below (by kernel_rfl) (by kernel_rfl) ?_
              repeat (go_big_quiet_step (fail))
              refine wpQuiet_nil ?_
              intro w1 hb1
              go_wp2_with fail
              go_meet
              exact ⟨rfl, Lib.hid hb1⟩
            · have eT : T2 = false := by rw [← HTT.out]; simp [hjn]
              subst eT
              have k1 : ¬ (j : Int) < (n : Int) := by omega
              refine wp_region_below (by kernel_rfl) (by kernel_rfl) ?_
              repeat (go_big_quiet_step (fail))
              refine wpQuiet_nil ?_
              intro w1 hb1
              go_wp2_with fail
              go_meet
              exact ⟨rfl, Lib.hid hb1⟩
          case rest =>
            obtain ⟨rfl, HBX⟩ := hcut
            have hszr : z + 3 ≤ wr.heap.size := by have h1 := HSC.out; have h2 := HS2.out; omega
            have HPx := Lib.hid (HP.out.call HBX.out (by omega))
            have HTx := Lib.hid (HT2.out.call HBX.out (by omega))
            have HRx := Lib.hid (HR2.out.call HBX.out (by omega))
            have HVx := Lib.hid (HV2.out.call HBX.out)
            have HBx := Lib.hid (HB2.out.trans (HBX.out.mono (by omega)))
            have HSx := Lib.hid (Nat.le_trans HS2.out HBX.out.size)
            have HIx := Lib.hid (HI.out wc HBx.out)
            clear g0 s1
            cases T2 with
            | true =>
              obtain ⟨hjn, hle⟩ := of_decide_eq_true HTT.out
              obtain ⟨a, rfl⟩ : ∃ a, ob = some a := HIx.out.1 (by rw [HN.out]; omega)
              obtain ⟨c1, c2⟩ := HIx.out.at (i := j) (by rw [HN.out]; exact hjn)
              have HGO := Lib.hid (HE.out.trans (addE_go (s := (m1, m2)) (by rw [HN.out]; exact hjn) hle))
              obtain ⟨x, hx⟩ : ∃ x, L.getD j iv0 = x := ⟨_, rfl⟩
              rw [hx] at c1 c2 HGO
              have t0 := HTx.out.1
              have p0 := HPx.out.c0
              have p1 := HPx.out.c1
              have q0 := HPx.out.f0
              have q1 := HPx.out.f1
              have k1 : (j : Int) < (n : Int) := by omega
              have k2 : (0 : Int) ≤ (j : Int) := by omega
              have hzc : z + 1 < wC.heap.size := by have := HSC.out; omega
              clear hx hle
              go_upto_region 7 with fail
              go_big_region
              have HPn := Lib.hid ((HPx.out.set (min m1 x.1) (max m2 x.2)).call (below_drew (Below.refl (z + 2) _)) (by omega))
              have HVn := Lib.hid ((IvL.far (IvL.far HVx.out (p := ⟨z + 1, 0, none⟩) hzc (.int .i64 (min m1 x.1))) (p := ⟨z + 1, 1, none⟩) hzc (.int .i64 (max m2 x.2))).call (below_drew (Below.refl _ _)))
              have HTn := Lib.hid (((HTx.out.far (Y := z + 1) (o := 0) (by omega) (.int .i64 (min m1 x.1))).far (Y := z + 1) (o := 1) (by omega) (.int .i64 (max m2 x.2))).call (below_drew (Below.refl (z + 2) _)) (by omega))
              have HRn := Lib.hid (((HRx.out.far (Y := z + 1) (o := 0) (by omega) (.int .i64 (min m1 x.1))).far (Y := z + 1) (o := 1) (by omega) (.int .i64 (max m2 x.2))).call (below_drew (Below.refl (z + 3) _)) (by omega))
              have HBn := Lib.hid (below_drew ((HBx.out.setCell (p := ⟨z + 1, 0, none⟩) (Nat.le_succ _) (.int .i64 (min m1 x.1))).setCell (p := ⟨z + 1, 1, none⟩) (Nat.le_succ _) (.int .i64 (max m2 x.2))))
              have HSn : Hid (wC.heap.size ≤ (((wc.setCell ⟨z + 1, 0, none⟩ (.int .i64 (min m1 x.1))).setCell ⟨z + 1, 1, none⟩ (.int .i64 (max m2 x.2))).drew).heap.size) := Lib.hid (Nat.le_trans HSx.out (below_drew (((Below.refl 0 wc).setCell (p := ⟨z + 1, 0, none⟩) (Nat.zero_le _) (.int .i64 (min m1 x.1))).setCell (p := ⟨z + 1, 1, none⟩) (Nat.zero_le _) (.int .i64 (max m2 x.2)))).size)
              clear t0 p0 p1 q0 q1 c1 c2
              obtain ⟨wn, hwn⟩ : ∃ W, ((wc.setCell ⟨z + 1, 0, none⟩ (.int .i64 (min m1 x.1))).setCell ⟨z + 1, 1, none⟩ (.int .i64 (max m2 x.2))).drew = W := ⟨_, rfl⟩
              rw [hwn] at HPn HVn HTn HRn HBn HSn ⊢
              clear hwn
              go_wp2_with fail
              go_roundw
              case rel => exact ⟨j + 1, _, _, by go_num, by omega, by omega, HPn, HGO, HVn, HTn, HRn, HBn, HSn⟩
              case measure => simp [intOf]; omega
            | false =>
              have hno := of_decide_eq_false HTT.out
              have HFIN : Hid (addD L (S1, S2) = (L.take i ++ [(m1, m2)]) ++ L.drop j) := Lib.hid (by rw [HTURN.out, HE.out, addE_stop (fun h g => hno ⟨by rw [← HN.out]; exact h, g⟩)]; simp)
              have t0 := HTx.out.1
              have p0 := HPx.out.c0
              have p1 := HPx.out.c1
              have hsz : wC.heap.size ≤ wc.heap.size := HSx.out
              clear hno
              go_upto_region 10 with (at_builtin; refine wpList_append_lies _ rfl (.tmp 71) (.tmp 73) 29 rfl wC.heap.size 55 i0 (.agg #[.int .i64 0, .int .i64 0]) 2 16 Tryd.underlying29 hi0 hz0 hz1 hz2 rfl (by decide) _ i (ivV (L.take i)) rfl ((show World.ownsRow _ _ _ _ _ i _ by have h := HVx.out; unfold IvL at h; rw [HLEN.out] at h; exact h).alloc _) _ 1 1 [.int .i64 m1, .int .i64 m2] rfl rfl (cells_ivs (by simp) _ _) (by simp [Value.oneCell']) (by decide) (by unfold maxLen; omega) (by omega) (by simp; omega) (wc.heap.size + 1) (by simp) ?_; intro g5 c6 w5 hown hgrow hat hlt5; have HOW := Lib.hid hown; have HB5 := Lib.hid (((Below.refl wC.heap.size wc).alloc hsz _).grown hgrow (by simp; omega) (fun j hj => (World.ownsRow.lt HVx.out j hj).1)); clear hown hgrow hat hlt5)
              clear t0 p0 p1
              have HT5 := Lib.hid (HTx.out.call HB5.out (by have := HSC.out; omega))
              have HR5 := Lib.hid (HRx.out.call HB5.out (by have := HSC.out; omega))
              have HBw5 := Lib.hid (HBx.out.trans (HB5.out.mono (by have := HSC.out; omega)))
              have HI5 := Lib.hid (HI.out w5 HBw5.out)
              have t0 := HT5.out.1
              have r0 := HR5.out.1
              have r1 := HR5.out.2
              have k1 : (j : Int) ≤ (n : Int) := by omega
              have k2 : (0 : Int) ≤ (j : Int) := by omega
              have hsz5 : wC.heap.size ≤ w5.heap.size := Nat.le_trans hsz HB5.out.size
              have HLX : Hid ((addD L (S1, S2)).length = i + 1 + (n - j)) := Lib.hid (by rw [HFIN.out, List.length_append, List.length_append, HLEN.out, List.length_drop, HN.out]; rfl)
              have HVX : Hid (ivV (addD L (S1, S2)) = ivV (L.take i) ++ [.int .i64 m1, .int .i64 m2] ++ ivV (L.drop j)) := Lib.hid (by rw [HFIN.out, ivV_append, ivV_append]; rfl)
              have HIS := Lib.hid (show IvS w5 (.slice ob n cap) L from ⟨ob, cap, by rw [HN.out], (by intro e; rcases HSh.out _ _ _ rfl with ⟨-, h2, h3⟩ | ⟨g, h2, -⟩; exact ⟨List.eq_nil_of_length_eq_zero (by rw [HN.out]; exact h2), h3⟩; rw [e] at h2; cases h2), HI5.out⟩)
              rcases HSh.out _ _ _ rfl with ⟨h1, h2, h3⟩ | ⟨g, h1, h2⟩
              · subst h1
                subst h2
                subst h3
                have hj0 : j = 0 := by omega
                subst hj0
                go_wp2_with (at_builtin; refine wpList_append_anyM rfl (.tmp 75) (.tmp 79) 29 rfl wC.heap.size 55 i0 (.agg #[.int .i64 0, .int .i64 0]) 2 16 Tryd.underlying29 hi0 hz0 hz1 hz2 rfl (by decide) _ (i + 1) (ivV (L.take i) ++ [Value.int IntKind.i64 m1, Value.int IntKind.i64 m2]) rfl HOW.out _ 0 [] rfl (.inl ⟨rfl, rfl, rfl⟩) (by unfold maxLen; omega) (by omega) hsz5 ?_; intro v6 w6 hown hgrow; have HO6 := Lib.hid hown; have HB6 := Lib.hid ((Below.refl wC.heap.size w5).grown hgrow hsz5 (fun q hq => (World.ownsRow.lt HOW.out q hq).1)); have HR6 := Lib.hid (HR5.out.call HB6.out (by have := HSC.out; omega)); have y0 := HR6.out.1; have y1 := HR6.out.2; obtain ⟨o6, c7, e6⟩ := (show IvL w6 wC.heap.size v6 (addD L (S1, S2)) from IvL.of HO6.out (by rw [HLX.out]) (by rw [HVX.out, List.drop_zero, List.eq_nil_of_length_eq_zero HN.out]; rfl)).form; have HVF : Hid (IvL w6 wC.heap.size v6 (addD L (S1, S2))) := Lib.hid (IvL.of HO6.out (by rw [HLX.out]) (by rw [HVX.out, List.drop_zero, List.eq_nil_of_length_eq_zero HN.out]; rfl)); subst e6; clear hown hgrow)
                refine bodyPost_ret (v := .agg #[.slice o6 (addD L (S1, S2)).length c7]) (by simp [results, Tryd.results17, go_sem, World.cell?_setCell_same _ _ _ y0]) rfl ?_
                refine ⟨_, rfl, ?_, ?_⟩
                · exact IvL.low (IvL.far HVF.out (p := ⟨z + 2, 0, none⟩) (by show z + 2 < _; have := HSC.out; omega) _) (by have h1 := HSC.out; have h2 := HZ.out; omega)
                · rw [HZ.out]
                  exact ((HBw5.out.trans (HB6.out.mono (by have := HSC.out; omega))).setCell (p := ⟨z + 2, 0, none⟩) (by show z ≤ z + 2; omega) _)
              · subst h1
                by_cases hjc : j = cap
                · have hnj : n - j = 0 := by omega
                  have hjn : j = n := by omega
                  subst hjn
                  subst hjc
                  go_wp2_with (at_builtin; refine wpList_append_anyM rfl (.tmp 75) (.tmp 79) 29 rfl wC.heap.size 55 i0 (.agg #[.int .i64 0, .int .i64 0]) 2 16 Tryd.underlying29 hi0 hz0 hz1 hz2 rfl (by decide) _ (i + 1) (ivV (L.take i) ++ [Value.int IntKind.i64 m1, Value.int IntKind.i64 m2]) rfl HOW.out _ 0 [] rfl (.inr ⟨⟨g, 0, none⟩, 0, rfl, rfl, (fun q u h => by simp at h), (fun u h => by cases h)⟩) (by unfold maxLen; omega) (by omega) hsz5 ?_; intro v6 w6 hown hgrow; have HO6 := Lib.hid hown; have HB6 := Lib.hid ((Below.refl wC.heap.size w5).grown hgrow hsz5 (fun q hq => (World.ownsRow.lt HOW.out q hq).1)); have HR6 := Lib.hid (HR5.out.call HB6.out (by have := HSC.out; omega)); have y0 := HR6.out.1; have y1 := HR6.out.2; obtain ⟨o6, c7, e6⟩ := (show IvL w6 wC.heap.size v6 (addD L (S1, S2)) from IvL.of HO6.out (by rw [HLX.out]; omega) (by rw [HVX.out, List.drop_of_length_le (by rw [HN.out]; exact Nat.le_refl _)]; rfl)).form; have HVF : Hid (IvL w6 wC.heap.size v6 (addD L (S1, S2))) := Lib.hid (IvL.of HO6.out (by rw [HLX.out]; omega) (by rw [HVX.out, List.drop_of_length_le (by rw [HN.out]; exact Nat.le_refl _)]; rfl)); subst e6; clear hown hgrow)
                  refine bodyPost_ret (v := .agg #[.slice o6 (addD L (S1, S2)).length c7]) (by simp [results, Tryd.results17, go_sem, World.cell?_setCell_same _ _ _ y0]) rfl ?_
                  refine ⟨_, rfl, ?_, ?_⟩
                  · exact IvL.low (IvL.far HVF.out (p := ⟨z + 2, 0, none⟩) (by show z + 2 < _; have := HSC.out; omega) _) (by have h1 := HSC.out; have h2 := HZ.out; omega)
                  · rw [HZ.out]
                    exact ((HBw5.out.trans (HB6.out.mono (by have := HSC.out; omega))).setCell (p := ⟨z + 2, 0, none⟩) (by show z ≤ z + 2; omega) _)
                · have HND := Lib.hid (news_drop (j := j) HN.out HIS.out (cap - j))
                  have hjl : j < cap := by omega
                  go_wp2_with (at_builtin; refine wpList_append_anyM rfl (.tmp 75) (.tmp 79) 29 rfl wC.heap.size 55 i0 (.agg #[.int .i64 0, .int .i64 0]) 2 16 Tryd.underlying29 hi0 hz0 hz1 hz2 rfl (by decide) _ (i + 1) (ivV (L.take i) ++ [Value.int IntKind.i64 m1, Value.int IntKind.i64 m2]) rfl HOW.out _ (n - j) (ivV (L.drop j)) rfl (.inr HND.out) (by unfold maxLen; omega) (by omega) hsz5 ?_; intro v6 w6 hown hgrow; have HO6 := Lib.hid hown; have HB6 := Lib.hid ((Below.refl wC.heap.size w5).grown hgrow hsz5 (fun q hq => (World.ownsRow.lt HOW.out q hq).1)); have HR6 := Lib.hid (HR5.out.call HB6.out (by have := HSC.out; omega)); have y0 := HR6.out.1; have y1 := HR6.out.2; obtain ⟨o6, c7, e6⟩ := (show IvL w6 wC.heap.size v6 (addD L (S1, S2)) from IvL.of HO6.out HLX.out HVX.out).form; have HVF : Hid (IvL w6 wC.heap.size v6 (addD L (S1, S2))) := Lib.hid (IvL.of HO6.out HLX.out HVX.out); subst e6; clear hown hgrow)
                  refine bodyPost_ret (v := .agg #[.slice o6 (addD L (S1, S2)).length c7]) (by simp [results, Tryd.results17, go_sem, World.cell?_setCell_same _ _ _ y0]) rfl ?_
                  refine ⟨_, rfl, ?_, ?_⟩
                  · exact IvL.low (IvL.far HVF.out (p := ⟨z + 2, 0, none⟩) (by show z + 2 < _; have := HSC.out; omega) _) (by have h1 := HSC.out; have h2 := HZ.out; omega)
                  · rw [HZ.out]
                    exact ((HBw5.out.trans (HB6.out.mono (by have := HSC.out; omega))).setCell (p := ⟨z + 2, 0, none⟩) (by show z ≤ z + 2; omega) _)
end Go.Proofs.YtbmndenopgkpoaaDoor
