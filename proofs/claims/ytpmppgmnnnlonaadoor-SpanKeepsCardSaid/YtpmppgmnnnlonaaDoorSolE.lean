/- The document's solver: solve. -/
import Derived.Test.YtpmppgmnnnlonaaDoorSolD
import Derived.Laws.AppendOwnNone
namespace Go.Proofs.YtpmppgmnnnlonaaDoor
open Go.RowKit
theorem wpList_append_any {P : Program} {w : World} {ops : Array Oper} {rest : List Oper} {o : Oper} {a : Act} {Q : Exit → Act → World → Prop} (hgd : o.guard = none) (s x : Operand) (t : TypeId)
    (ho : o.op = .call { callee := .builtin .append, args := #[s, x], argTypes := #[t, t] })
    (base : Nat) (e : TypeId) (i : TypeInfo) (z : Value) (size bytes : Nat) (ht : P.underlying t = some (.slice e)) (hi : P.info? e = some i) (hz : i.zero = some z)
    (hsize : i.size = size) (hby : i.bytes = bytes) (hzs : z.cells.size = size) (hsz : 0 < size)
    (v : Value) (n : Nat) (xs : List Value) (hs : a.eval s = v) (hown : w.ownsRow base e size v n xs)
    (xv : Value) (m : Nat) (news : List Value) (hx : a.eval x = xv)
    (hxv : (xv = .slice none 0 0 ∧ m = 0 ∧ news = []) ∨ ∃ ad c, xv = .slice (some ad) m c ∧ news.length = m * size ∧ (∀ j u, news[j]? = some u → w.cell? (ad.add j) = some u) ∧ ∀ u ∈ news, u.oneCell' = true)
    (h63 : n + m ≤ maxLen) (hbytes : (n + m) * bytes ≤ 140737488355328) (hbase : base ≤ w.heap.size)
    (h : ∀ v' w', w'.ownsRow base e size v' (n + m) (xs ++ news) → w.grownBy w' v.ownBlock → wpList P ops Q rest (a.put o.dst v') w') : wpList P ops Q (o :: rest) a w := by
  rcases hxv with ⟨h1, rfl, rfl⟩ | ⟨ad, c, h1, h2, h3, h4⟩
  · exact wpList_append_own_none hgd s x t ho base e i size ht hi v n xs hs hown (hx.trans h1) (h v w (by simpa using hown) ⟨rfl, rfl, rfl, Nat.le_refl _, fun _ _ _ => rfl⟩)
  · exact wpList_append_own w hgd s x t ho base e i z size bytes ht hi hz hsize hby hzs hsz v n xs hs hown ad m c news (hx.trans h1) h2 h3 h4 h63 hbytes hbase fun v' w' a b _ => h v' w' a b
theorem SpanL.own {w : World} {b : Nat} {v : Value} {l : List Pr} (h8 : w.ownsRow b 23 2 v l.length (prV l)) : SpanL w b v l := by
  have hlt := h8.lt
  have hcells := fun (g : Nat) (hg : v.ownBlock = some g) => h8.cells hg
  rcases h8.2 with ⟨rfl, h0⟩ | ⟨g, cap, cur, rfl, hb, hh, hc1, hc2, _⟩
  · exact ⟨none, 0, by rw [h0], by omega, by simp [maxLen], fun hp => by omega⟩
  · refine ⟨some ⟨g, 0, none⟩, cap, rfl, hc1, hc2, fun _ => ⟨g, rfl, hb, (hlt g rfl).2, fun k hk => ?_⟩⟩
    have h1 := hcells g rfl (k * 2) _ (prV_at l k hk).1
    have h2 := hcells g rfl (k * 2 + 1) _ (prV_at l k hk).2
    rw [Addr.add_lit] at h1 h2
    simp only [Nat.zero_add] at h1 h2
    exact ⟨h1, h2⟩
theorem prV_one (l : List Pr) : ∀ u ∈ prV l, u.oneCell' = true := fun u hu => by
  unfold prV at hu
  obtain ⟨p, _, hp⟩ := List.mem_flatMap.1 hu
  simp only [List.mem_cons, List.not_mem_nil, or_false] at hp
  rcases hp with rfl | rfl <;> rfl
/-- The spans to be appended. -/
theorem SpanL.news {w : World} {b : Nat} {v : Value} {l : List Pr} (h : SpanL w b v l) (h0 : l = [] → v = .slice none 0 0) : (v = .slice none 0 0 ∧ l.length = 0 ∧ prV l = []) ∨ ∃ ad c, v = .slice (some ad) l.length c ∧ (prV l).length = l.length * 2 ∧ (∀ j u, (prV l)[j]? = some u → w.cell? (ad.add j) = some u) ∧ ∀ u ∈ prV l, u.oneCell' = true := by
  cases l with
  | nil => exact .inl ⟨h0 rfl, rfl, rfl⟩
  | cons p t =>
    obtain ⟨oa, cap, h1, h2, h3, h4⟩ := h
    obtain ⟨g, rfl, g2, g3, g4⟩ := h4 (by simp)
    refine .inr ⟨_, _, h1, prV_len _, fun j u hj => ?_, prV_one _⟩
    have hjl : j < (p :: t).length * 2 := by rw [← prV_len]; exact (List.getElem?_eq_some_iff.1 hj).1
    rw [Addr.add_lit, Nat.zero_add]
    have hq := g4 (j / 2) (by omega)
    have hp := prV_at (p :: t) (j / 2) (by omega)
    rcases Nat.mod_two_eq_zero_or_one j with e | e
    · rw [show j / 2 * 2 = j by omega] at hq hp
      rw [hq.1, ← hp.1, hj]
    · rw [show j / 2 * 2 + 1 = j by omega] at hq hp
      rw [hq.2, ← hp.2, hj]
/-- What solve answers. -/
def SolD (n : Nat) (N : Nat → Nat → Nat) (k : Nat) (l : List Pr) (w : World) (e : Ending) (w' : World) : Prop :=
  ∃ r, IsF n (accD N) k l r ∧ Below w.heap.size w w' ∧ ((r = none ∧ e = .returned (.tuple #[.slice none 0 0, .bool false])) ∨ ∃ t v, r = some t ∧ e = .returned (.tuple #[v, .bool true]) ∧ SpanL w' 0 v (l ++ t))
def DP (z : Nat → Nat → Int) (m : Nat) (l : List Pr) (x : Pr) (j : Nat) : Prop := (z m j).toNat.testBit (wayP x ((l ++ [x]).getD j pD)) = true ∧ (z j m).toNat.testBit (wayP ((l ++ [x]).getD j pD) x) = true
theorem accD_all {z : Nat → Nat → Int} {m : Nat} {l : List Pr} {x : Pr} (hm : l.length = m) (hx : x.1 < x.2) : accD (fun i k => (z i k).toNat) l x ↔ ∀ j, j < m + 1 → DP z m l x j := by
  subst hm
  have e1 : ∀ j, j < l.length → (l ++ [x]).getD j pD = l.getD j pD := fun j hj => by simp [List.getD, List.getElem?_append_left hj]
  have e2 : (l ++ [x]).getD l.length pD = x := by simp [List.getD]
  constructor
  · intro h j hj
    by_cases e : j = l.length
    · subst e
      unfold DP
      rw [e2, wayP_self hx]
      exact ⟨h.2, h.2⟩
    · have hj2 : j < l.length := by omega
      unfold DP
      rw [e1 j hj2]
      exact h.1 j hj2
  · intro h
    refine ⟨fun j hj => ?_, ?_⟩
    · have := h j (by omega)
      unfold DP at this
      rw [e1 j hj] at this
      exact this
    · have := h l.length (by omega)
      unfold DP at this
      rw [e2, wayP_self hx] at this
      exact this.1
theorem snoc_at {l : List Pr} {x : Pr} {k : Nat} (hv : Valid l) (hx : x.1 < x.2) (hk : k < l.length + 1) : ((l ++ [x]).getD k pD).1 < ((l ++ [x]).getD k pD).2 := (hv.snoc hx).at (by simpa using hk)
theorem refWay_P (x y : Pr) (w : World) (h1 : x.1 < x.2) (h2 : y.1 < y.2) : Calls Tryd.prog 30 #[.agg #[.int .i64 (x.1 : Int), .int .i64 (x.2 : Int)], .agg #[.int .i64 (y.1 : Int), .int .i64 (y.2 : Int)]] w fun e w' => e = .returned (.int .i64 (wayP x y : Int)) ∧ Below w.heap.size w w' := refWay_any _ _ _ _ w (by omega) (by omega)
theorem SpanL.spot {w : World} {b g p c : Nat} {l : List Pr} (h : SpanL w b (.slice (some ⟨g, 0, none⟩) p c) l) {k : Nat} (hk : k < l.length) : w.cell? ⟨g, k * 2, none⟩ = some (.int .i64 ((l.getD k pD).1 : Int)) ∧ w.cell? ⟨g, k * 2 + 1, none⟩ = some (.int .i64 ((l.getD k pD).2 : Int)) := by
  obtain ⟨oa, cap, h1, _, _, h4⟩ := h
  obtain ⟨g', e, _, _, h5⟩ := h4 (by omega)
  simp only [Value.slice.injEq] at h1
  obtain ⟨h1, _, _⟩ := h1
  rw [e] at h1
  simp only [Option.some.injEq, Addr.mk.injEq, and_true] at h1
  rw [h1]
  exact h5 k hk
theorem refWay_F (F Q : Nat) (y : Pr) (w : World) (h1 : F < Q) (h2 : y.1 < y.2) : Calls Tryd.prog 30 #[.agg #[.int .i64 (F : Int), .int .i64 (Q : Int)], .agg #[.int .i64 (y.1 : Int), .int .i64 (y.2 : Int)]] w fun e w' => e = .returned (.int .i64 (wayP (F, Q) y : Int)) ∧ Below w.heap.size w w' := refWay_P (F, Q) y w h1 h2
theorem refWay_B (F Q : Nat) (y : Pr) (w : World) (h1 : F < Q) (h2 : y.1 < y.2) : Calls Tryd.prog 30 #[.agg #[.int .i64 (y.1 : Int), .int .i64 (y.2 : Int)], .agg #[.int .i64 (F : Int), .int .i64 (Q : Int)]] w fun e w' => e = .returned (.int .i64 (wayP y (F, Q) : Int)) ∧ Below w.heap.size w w' := refWay_P y (F, Q) w h2 h1
open Classical in
set_option maxRecDepth 100000 in
set_option maxHeartbeats 8000000 in
theorem rsolve_any (oa : Option Addr) (n cap : Nat) (A : Nat → Option Addr) (L C : Nat → Nat) (z : Nat → Nat → Int) (hn : n ≤ 1000) (hE : netE n L z = 0) : ∀ (k : Nat) (l : List Pr) (v : Value) (w : World), l.length + k = n → Valid l → (l = [] → v = .slice none 0 0) → NetR w oa n A L C z → SpanL w 0 v l → Calls Tryd.prog 42 #[.slice oa n cap, v] w (SolD n (fun i k => (z i k).toNat) k l w) := by
  obtain ⟨n1, n6, hrows⟩ := net_ok hE
  have HOK := Lib.hid hrows
  clear hrows hE
  obtain ⟨i0, hi0, hz0, hz1, hz2⟩ := info_parts span_info
  intro k
  induction k with
  | zero =>
    intro l v w hl hv hl0 hR hS
    obtain ⟨ob, cap2, rfl, hc1, hc2, hc3⟩ := hS
    have HS := Lib.hid (show SpanL w 0 (.slice ob l.length cap2) l from ⟨ob, cap2, rfl, hc1, hc2, hc3⟩)
    have hln : l.length = n := by omega
    have HLN := Lib.hid hln
    have hnb : ((n : Int) == (n : Int)) = true := by simp
    rw [hln] at HS
    clear hl hv hl0 hR hc1 hc2 hc3
    rw [hln]
    clear hln
    go_enter Tryd.func42, Tryd.ntmps42
    go_wp2_with fail
    go_ret2
    exact ⟨some [], rfl, Below.refl _ _, .inr ⟨[], _, rfl, rfl, by rw [List.append_nil]; exact HS.out⟩⟩
  | succ k ih =>
    have IH := Lib.hid ih
    clear ih
    intro l v w hl hv hl0 hR hS
    obtain ⟨m, hm⟩ : ∃ m, l.length = m := ⟨_, rfl⟩
    obtain ⟨a, rfl⟩ := hR.1 (by omega)
    have HNEWS := Lib.hid (fun (wx : World) (hb : Below w.heap.size w wx) => (hS.call hb).news hl0)
    have HR := Lib.hid hR
    have HV := Lib.hid hv
    obtain ⟨ob, cap2, rfl, hc1, hc2, hc3⟩ := hS
    clear hc3 hl0 hR hv
    rw [hm] at HNEWS hc1 hl
    rw [hm]
    have HM := Lib.hid hm
    clear hm
    have hmb : ((m : Int) == (n : Int)) = false := by simp; omega
    have hmn : m < n := by omega
    unfold maxLen at hc2
    go_enter Tryd.func42, Tryd.ntmps42
    go_wp2_with fail
    go_loopw [8] (fun c wr => ∃ F : Nat, c = .int .i64 (F : Int) ∧ F ≤ 2 * n ∧ Hid (Below w.heap.size w wr) ∧ Hid (∀ y : Pr, Cand n y → y.1 < F → accD (fun i k => (z i k).toNat) l y → IsF n (accD fun i k => (z i k).toNat) k (l ++ [y]) none)) (fun c _ => 2 * n - (intOf c).toNat)
    case atStart => exact ⟨0, rfl, by omega, Lib.hid (Below.refl _ _), Lib.hid fun y _ hy => absurd hy (Nat.not_lt_zero _)⟩
    case round =>
      obtain ⟨F, rfl, hF, HB, HN⟩ := hrel
      obtain ⟨wA, rfl⟩ : ∃ wo : World, wo = wr := ⟨_, rfl⟩
      by_cases hF2 : F < 2 * n
      · have hFd : decide ((F : Int) < 2 * (n : Int)) = true := by simp; omega
        have hF3 : (F : Int) < 2 * (n : Int) := by omega
        go_wp2_with fail
        go_loopw [9] (fun c wr => ∃ Q : Nat, c = .int .i64 (Q : Int) ∧ F < Q ∧ Q ≤ 2 * n ∧ Hid (Below w.heap.size w wr) ∧ Hid (∀ y : Pr, Cand n y → (y.1 < F ∨ y.1 = F ∧ y.2 < Q) → accD (fun i k => (z i k).toNat) l y → IsF n (accD fun i k => (z i k).toNat) k (l ++ [y]) none)) (fun c _ => 2 * n - (intOf c).toNat)
        case atStart => exact ⟨F + 1, by go_num, by omega, by omega, HB, Lib.hid fun y hy h ha => HN.out y hy (by have := hy.1; omega) ha⟩
        case round =>
          clear HB HN
          obtain ⟨Q, rfl, hQ, hQ2, HB, HN⟩ := hrel
          obtain ⟨wB, rfl⟩ : ∃ wo : World, wo = wr := ⟨_, rfl⟩
          by_cases hQ3 : Q < 2 * n
          · have hQd : decide ((Q : Int) < 2 * (n : Int)) = true := by simp; omega
            have HNW := Lib.hid (HNEWS.out (wB.alloc (.cells #[] 23)) (HB.out.alloc HB.out.size _))
            have HBA := Lib.hid (HB.out.alloc HB.out.size (.cells #[] 23))
            go_wp2_with (first
              | (at_builtin; refine wpList_append_any rfl (.tmp 38) (.tmp 39) 31 rfl wB.heap.size 23 i0 (.agg #[.int .i64 0, .int .i64 0]) 2 16 Tryd.underlying31 hi0 hz0 hz1 hz2 rfl (by decide) _ 0 [] rfl (own_empty wB wB.heap.size _ 2 (Nat.le_refl _)) _ m (prV l) rfl HNW.out (by unfold maxLen; omega) (by omega) (by simp) ?_; intro v1 w3 hown1 hgrow1; simp only [Nat.zero_add, List.nil_append] at hown1; have hg1 : (wB.alloc (.cells #[] 23)).grownBy w3 (some wB.heap.size) := hgrow1; clear hgrow1; have HB3 := Lib.hid (((Below.refl wB.heap.size wB).alloc (Nat.le_refl _) (.cells #[] 23)).grown hg1 (by simp) (fun k hk => by injection hk with hk; omega)); have HO1 := Lib.hid hown1; clear hown1 hg1)
              | (at_builtin; refine wpList_append_any rfl (.tmp 40) (.tmp 44) 31 rfl wB.heap.size 23 i0 (.agg #[.int .i64 0, .int .i64 0]) 2 16 Tryd.underlying31 hi0 hz0 hz1 hz2 rfl (by decide) _ m (prV l) rfl (HO1.out.alloc _) _ 1 [.int .i64 (F : Int), .int .i64 (Q : Int)] rfl (.inr ⟨⟨w3.heap.size, 0, none⟩, 1, rfl, rfl, cells_here w3 _ _, by simp [Value.oneCell']⟩) (by unfold maxLen; omega) (by omega) (by have := HB3.out.size; simp; omega) ?_; intro v2 w4 hown2 hgrow2; obtain ⟨g2, c2, hv2, hgl, hgu⟩ := hown2.form (by omega); subst hv2; have HS4 := Lib.hid (SpanL.low (SpanL.own (show w4.ownsRow wB.heap.size 23 2 (.slice (some ⟨g2, 0, none⟩) (m + 1) c2) (l ++ [(F, Q)]).length (prV (l ++ [(F, Q)])) by rw [prV_snoc, List.length_append, HM.out]; exact hown2)) (Nat.zero_le wB.heap.size)); have hlt1 := HO1.out.lt; have HB4 := Lib.hid (HB.out.trans (((HB3.out.alloc HB3.out.size (.cells #[.int .i64 (F : Int), .int .i64 (Q : Int)] 23)).grown hgrow2 (by have := HB3.out.size; simp; omega) (fun k hk => (hlt1 k hk).1)).mono HB.out.size)); clear hown2 hgrow2 hlt1))
            have hcm : m + 1 ≤ c2 ∧ c2 ≤ 9223372036854775807 := by
              obtain ⟨_, _, e1, e2, e3, _⟩ := HS4.out
              simp only [Value.slice.injEq] at e1
              obtain ⟨_, e4, rfl⟩ := e1
              unfold maxLen at e3
              omega
            go_loopw [11, 12] (fun o c wr => ∃ (k : Nat) (t : Bool), o = .bool t ∧ c = .int .i64 (k : Int) ∧ k ≤ m + 1 ∧ Hid (t = true ↔ ∀ j, j < k → DP z m l (F, Q) j) ∧ Hid (Below w4.heap.size w4 wr)) (fun _ c _ => m + 1 - (intOf c).toNat)
            case atStart => exact ⟨0, true, rfl, rfl, by omega, Lib.hid ⟨fun _ j hj => absurd hj (Nat.not_lt_zero j), fun _ => rfl⟩, Lib.hid (Below.refl _ _)⟩
            case round =>
              obtain ⟨K, t, rfl, rfl, hK, HT, HC⟩ := hrel
              obtain ⟨wC, rfl⟩ : ∃ wo : World, wo = wr := ⟨_, rfl⟩
              by_cases hK2 : K < m + 1
              · have hKd : decide ((K : Int) ≤ (m : Int)) = true := by simp; omega
                have hKe : (K : Int) ≤ (m : Int) := by omega
                have HBC := Lib.hid (HB4.out.trans (HC.out.mono HB4.out.size))
                cases t with
                | false =>
                  go_wp2_with fail
                  refine wp_region_below (by kernel_rfl) (by kernel_rfl) ?_
                  repeat (go_big_quiet_step (fail))
                  refine wpQuiet_nil ?_
                  intro w5 hb5
                  have HC5 := Lib.hid (thenB HC.out hb5)
                  clear hb5
                  go_wp2_with fail
                  go_roundw
                  case rel => exact ⟨K + 1, false, rfl, by go_num, by omega, Lib.hid ⟨fun h => (by cases h), fun h => HT.out.2 fun j hj => h j (by omega)⟩, HC5⟩
                  case measure => simp [intOf]; omega
                | true =>
                  have hS := HS4.out.call HC.out
                  obtain ⟨s1, s2⟩ := hS.spot (k := m) (by rw [List.length_append, HM.out]; simp)
                  obtain ⟨s3, s4⟩ := hS.spot (k := K) (by rw [List.length_append, HM.out]; simp; omega)
                  have hgm : (l ++ [(F, Q)]).getD m pD = (F, Q) := by rw [← HM.out]; simp [List.getD]
                  rw [hgm] at s1 s2
                  have hYv := snoc_at HV.out (x := (F, Q)) hQ (k := K) (by rw [HM.out]; omega)
                  obtain ⟨Y, hY⟩ : ∃ Y, (l ++ [(F, Q)]).getD K pD = Y := ⟨_, rfl⟩
                  rw [hY] at s3 s4 hYv
                  have hKn : K < n := by omega
                  obtain ⟨q5, q6, q7⟩ := ((HR.out.call HBC.out).2 a rfl).2 m hmn
                  obtain ⟨p5, p6, p7⟩ := ((HR.out.call HBC.out).2 a rfl).2 K hKn
                  obtain ⟨c1, d1⟩ := HOK.out m hmn
                  obtain ⟨c3, d2⟩ := HOK.out K hKn
                  rw [c1] at q5 q6 q7
                  rw [c3] at p5 p6 p7
                  obtain ⟨r, hr⟩ := q6 (by omega)
                  obtain ⟨r', hr'⟩ := p6 (by omega)
                  rw [hr] at q5
                  rw [hr'] at p5
                  have q8 := (q7 r hr).2 K hKn
                  have p8 := (p7 r' hr').2 m hmn
                  have HZ := Lib.hid (And.intro (d1 K hKn) (d2 m hmn))
                  have HQ := Lib.hid (And.intro (show ((F, Q) : Pr).1 < ((F, Q) : Pr).2 from hQ) hYv)
                  have HY := Lib.hid hY
                  have hv1 := wayP_lt (F, Q) Y
                  have hv2 := wayP_lt Y (F, Q)
                  have m1 : (0 : Int) ≤ (m : Int) := by omega
                  have m2 : (m : Int) < (n : Int) := by omega
                  have m3 : (m : Int) < ((m + 1 : Nat) : Int) := by omega
                  have k1 : (0 : Int) ≤ (K : Int) := by omega
                  have k2 : (K : Int) < (n : Int) := by omega
                  have k3 : (K : Int) < ((m + 1 : Nat) : Int) := by omega
                  have r1 := cell_regrown q5
                  have r2 := cell_regrown p5
                  have r3 := cell_regrown q8
                  have r4 := cell_regrown p8
                  have r5 := cell_regrown s1
                  have r6 := cell_regrown s2
                  have r7 := cell_regrown s3
                  have r8 := cell_regrown s4
                  clear hS s1 s2 s3 s4 q5 q6 q7 q8 p5 p6 p7 p8 c1 c3 d1 d2 hr hr' hY hYv hgm
                  cases hb1 : (z m K).toNat.testBit (wayP (F, Q) Y)
                  · have HB1 := Lib.hid hb1
                    clear hb1
                    go_wp2_with fail
                    refine wp_region_below (by kernel_rfl) (by kernel_rfl) ?_
                    repeat (go_big_quiet_step ((first | (go_at_call 30; exact Calls.regrown_of (refWay_F F Q Y _ HQ.out.1 HQ.out.2)) | (go_at_call 33; exact Calls.regrown_of (in_F _ _ _ HZ.out.1 hv1 HB1.out)))))
                    refine wpQuiet_nil ?_
                    intro w5 hb5
                    have HC5 := Lib.hid (thenB HC.out hb5)
                    clear hb5 r1 r2 r3 r4 r5 r6 r7 r8
                    go_wp2_with fail
                    go_roundw
                    case rel =>
                      refine ⟨K + 1, false, rfl, by go_num, by omega, Lib.hid ⟨fun h => (by cases h), fun h => ?_⟩, HC5⟩
                      have := (h K (by omega)).1
                      rw [HY.out, HB1.out] at this
                      cases this
                    case measure => simp [intOf]; omega
                  · have HB1 := Lib.hid hb1
                    clear hb1
                    cases hb2 : (z K m).toNat.testBit (wayP Y (F, Q))
                    · have HB2 := Lib.hid hb2
                      clear hb2
                      go_wp2_with fail
                      refine wp_region_below (by kernel_rfl) (by kernel_rfl) ?_
                      repeat (go_big_quiet_step ((first | (go_at_call 30; exact Calls.regrown_of (by first | with_reducible exact refWay_F F Q Y _ HQ.out.1 HQ.out.2 | with_reducible exact refWay_B F Q Y _ HQ.out.1 HQ.out.2)) | (go_at_call 33; exact Calls.regrown_of (by first | with_reducible exact in_T (z m K) (wayP (F, Q) Y) _ HZ.out.1 hv1 HB1.out | with_reducible exact in_F (z K m) (wayP Y (F, Q)) _ HZ.out.2 hv2 HB2.out)))))
                      refine wpQuiet_nil ?_
                      intro w5 hb5
                      have HC5 := Lib.hid (thenB HC.out hb5)
                      clear hb5 r1 r2 r3 r4 r5 r6 r7 r8
                      go_wp2_with fail
                      go_roundw
                      case rel =>
                        refine ⟨K + 1, false, rfl, by go_num, by omega, Lib.hid ⟨fun h => (by cases h), fun h => ?_⟩, HC5⟩
                        have := (h K (by omega)).2
                        rw [HY.out, HB2.out] at this
                        cases this
                      case measure => simp [intOf]; omega
                    · have HB2 := Lib.hid hb2
                      clear hb2
                      go_wp2_with fail
                      refine wp_region_below (by kernel_rfl) (by kernel_rfl) ?_
                      repeat (go_big_quiet_step ((first | (go_at_call 30; exact Calls.regrown_of (by first | with_reducible exact refWay_F F Q Y _ HQ.out.1 HQ.out.2 | with_reducible exact refWay_B F Q Y _ HQ.out.1 HQ.out.2)) | (go_at_call 33; exact Calls.regrown_of (by first | with_reducible exact in_T (z m K) (wayP (F, Q) Y) _ HZ.out.1 hv1 HB1.out | with_reducible exact in_T (z K m) (wayP Y (F, Q)) _ HZ.out.2 hv2 HB2.out)))))
                      refine wpQuiet_nil ?_
                      intro w5 hb5
                      have HC5 := Lib.hid (thenB HC.out hb5)
                      clear hb5 r1 r2 r3 r4 r5 r6 r7 r8
                      go_wp2_with fail
                      go_roundw
                      case rel =>
                        refine ⟨K + 1, true, rfl, by go_num, by omega, Lib.hid ⟨fun _ j hj => ?_, fun _ => rfl⟩, HC5⟩
                        by_cases e : j = K
                        · subst e
                          unfold DP
                          rw [HY.out]
                          exact ⟨HB1.out, HB2.out⟩
                        · exact HT.out.1 trivial j (by omega)
                      case measure => simp [intOf]; omega
              · obtain rfl : K = m + 1 := by omega
                have hKd : decide (((m + 1 : Nat) : Int) ≤ (m : Int)) = false := by simp; omega
                have hKe : ¬ ((m + 1 : Nat) : Int) ≤ (m : Int) := by omega
                have hacc := (HT.out.trans (accD_all (z := z) HM.out (show ((F, Q) : Pr).1 < ((F, Q) : Pr).2 from hQ)).symm)
                have HACC := Lib.hid hacc
                clear hacc
                cases t with
                | false =>
                  have HB5 := Lib.hid (HB4.out.trans (HC.out.mono HB4.out.size))
                  go_wp2_with fail
                  go_roundw
                  case rel =>
                    refine ⟨Q + 1, by go_num, by omega, by omega, HB5, Lib.hid fun y hy h ha => ?_⟩
                    by_cases e : y = (F, Q)
                    · subst e; exact absurd (HACC.out.2 ha) (by simp)
                    · refine HN.out y hy ?_ ha
                      obtain ⟨a, b⟩ := y
                      simp only [Prod.mk.injEq] at e
                      simp only at h ⊢
                      omega
                  case measure => simp [intOf]; omega
                | true =>
                  have HB5 := Lib.hid (HB4.out.trans (HC.out.mono HB4.out.size))
                  have HS5 := Lib.hid (HS4.out.call HC.out)
                  go_wp2_with fail
                  have hlen : (l ++ [(F, Q)]).length + k = n := by have := HM.out; simp; omega
                  refine (IH.out (l ++ [(F, Q)]) _ _ hlen (HV.out.snoc (show F < Q from hQ)) (fun h => absurd h (by simp)) (HR.out.call HB5.out) HS5.out).mono ?_
                  clear hlen
                  rintro e w6 ⟨r, hr, hb6, (⟨rfl, rfl⟩ | ⟨t, v6, rfl, rfl, hs6⟩)⟩
                  · have HB6 := Lib.hid (thenB HB5.out hb6)
                    have HRR := Lib.hid hr
                    clear hb6 hr
                    go_wp2_with fail
                    go_roundw
                    case rel =>
                      refine ⟨Q + 1, by go_num, by omega, by omega, HB6, Lib.hid fun y hy h ha => ?_⟩
                      by_cases e : y = (F, Q)
                      · subst e; exact HRR.out
                      · refine HN.out y hy ?_ ha
                        obtain ⟨a, b⟩ := y
                        simp only [Prod.mk.injEq] at e
                        simp only at h ⊢
                        omega
                    case measure => simp [intOf]; omega
                  · have HB6 := Lib.hid (thenB HB5.out hb6)
                    have HRR := Lib.hid hr
                    have e2 : l ++ [(F, Q)] ++ t = l ++ (F, Q) :: t := by simp
                    rw [e2] at hs6
                    have HS6 := Lib.hid hs6
                    clear hb6 hr e2 hs6
                    go_wp2_with fail
                    go_ret2
                    exact ⟨some ((F, Q) :: t), .inr ⟨(F, Q), t, ⟨show F < Q from hQ, show Q < 2 * n by omega⟩, rfl, HACC.out.1 trivial, HRR.out, fun y hy hp ha => HN.out y hy hp ha⟩, HB6.out, .inr ⟨_, _, rfl, rfl, HS6.out⟩⟩
          · have hQd : decide ((Q : Int) < 2 * (n : Int)) = false := by simp; omega
            obtain rfl : Q = 2 * n := by omega
            go_wp2_with fail
            go_roundw
            case rel =>
              refine ⟨F + 1, by go_num, by omega, HB, Lib.hid fun y hy h ha => HN.out y hy ?_ ha⟩
              have := hy.2
              omega
            case measure => simp [intOf]; omega
      · have hFd : decide ((F : Int) < 2 * (n : Int)) = false := by simp; omega
        go_wp2_with fail
        go_ret2
        exact ⟨none, .inl ⟨rfl, fun y hy ha => HN.out y hy (by have := hy.1; have := hy.2; omega) ha⟩, HB.out, .inl ⟨rfl, rfl⟩⟩
end Go.Proofs.YtpmppgmnnnlonaaDoor
