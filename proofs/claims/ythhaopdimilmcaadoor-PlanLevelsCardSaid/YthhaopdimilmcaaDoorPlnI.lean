/- The program's Late. -/
import Derived.Test.YthhaopdimilmcaaDoorPlnH
namespace Go.Proofs.YthhaopdimilmcaaDoor
open Go.RowKit
theorem errV12 : errV 12 = .iface 25 (.int .i64 12) := rfl
theorem errV4 : errV 4 = .iface 25 (.int .i64 4) := rfl
/-- What Late answers. -/
def LateR (T : Plan) (y : Int) (w : World) (e : Ending) (w' : World) : Prop := Below w.heap.size w w' ∧ ((T.chk ≠ 0 ∧ e = .returned (.tuple #[.slice none 0 0, errV T.chk])) ∨ (T.chk = 0 ∧ ∃ s, Plan.Fix T s ∧ ((y < Plan.last T s T.n ∧ e = .returned (.tuple #[.slice none 0 0, errV 12])) ∨ (Plan.last T s T.n ≤ y ∧ 1099511627776 < y ∧ e = .returned (.tuple #[.slice none 0 0, errV 4])) ∨ (Plan.last T s T.n ≤ y ∧ y ≤ 1099511627776 ∧ ∃ B q, e = .returned (.tuple #[.slice (some ⟨B, 0, none⟩) T.n T.n, .nilIface]) ∧ w.heap.size ≤ B ∧ OwnS w' B T.n q (fun i => q i + T.len i) ∧ Plan.Latest T y q ∧ ∀ i, i < T.n → y - 122000000 ≤ q i ∧ q i ≤ y))))
/-- The latest beginnings under way. -/
def LSt (T : Plan) (y : Int) (o : List Nat) (w : World) (B n p : Nat) (q t : Nat → Int) (wr : World) : Prop := OwnS wr B n q t ∧ Plan.LateAt T y o p q ∧ (∀ i, i ∈ o.drop (n - p) → t i = q i + T.len i) ∧ Below w.heap.size w wr ∧ w.heap.size ≤ B
theorem LSt.call {T : Plan} {y : Int} {o : List Nat} {w : World} {B n p : Nat} {q t : Nat → Int} {wr w' : World} (h : LSt T y o w B n p q t wr) (hb : Below wr.heap.size wr w') : LSt T y o w B n p q t w' :=
  ⟨h.1.call hb, h.2.1, h.2.2.1, thenB h.2.2.2.1 hb, h.2.2.2.2⟩
/-- One task of the latest under way: so many of its links are reckoned. -/
def MSt (T : Plan) (w : World) (B n i k : Nat) (q t : Nat → Int) (wr : World) : Prop := OwnS wr B n (Plan.mn T q i k) t ∧ Below w.heap.size w wr ∧ w.heap.size ≤ B
theorem MSt.call {T : Plan} {w : World} {B n i k : Nat} {q t : Nat → Int} {wr w' : World} (h : MSt T w B n i k q t wr) (hb : Below wr.heap.size wr w') : MSt T w B n i k q t w' :=
  ⟨h.1.call hb, thenB h.2.1 hb, h.2.2⟩
theorem MSt.step {T : Plan} {w : World} {B n i k : Nat} {q t : Nat → Int} {wr : World} (h : MSt T w B n i k q t wr) (hto : T.to i k < n) : MSt T w B n i (k + 1) q t (wr.setCell ⟨B, T.to i k * 2, none⟩ (.int .i64 (min (Plan.mn T q i k (T.to i k)) (Plan.mn T q i k i - T.wait i k)))) :=
  ⟨h.1.set0 hto _, h.2.1.setCell (by exact h.2.2) _, h.2.2⟩
theorem LSt.step {T : Plan} (hT : T.Ok) {y : Int} {o : List Nat} (ho : Plan.Topo T o) (hl : o.length = T.n) {w : World} {B n p : Nat} (hnn : T.n = n) {q t : Nat → Int} (h2 : Plan.LateAt T y o p q) (h3 : ∀ i, i ∈ o.drop (n - p) → t i = q i + T.len i) {i : Nat} (hp : p < n) (hpi : o[n - 1 - p]? = some i) {wr : World}
    (h : MSt T w B n i (T.lc i) q (Plan.upd t i (q i + T.len i)) wr) : LSt T y o w B n (p + 1) (Plan.mn T q i (T.lc i)) (Plan.upd t i (q i + T.len i)) wr := by
  subst hnn
  have hi : i < T.n := ho.lt (List.mem_of_getElem? hpi)
  refine ⟨h.1, h2.step hT ho hl hp hpi, fun j hj => ?_, h.2.1, h.2.2⟩
  have hpl : T.n - 1 - p < o.length := (List.getElem?_eq_some_iff.1 hpi).1
  have hsplit : o = o.take (T.n - 1 - p) ++ i :: o.drop (T.n - p) := by
    have := List.drop_eq_getElem_cons hpl
    rw [(List.getElem?_eq_some_iff.1 hpi).2, show T.n - 1 - p + 1 = T.n - p by omega] at this
    rw [← this]; simp
  have hnd := ho.nodup
  rw [hsplit] at hnd
  rw [show T.n - (p + 1) = T.n - 1 - p by omega, List.drop_eq_getElem_cons hpl, (List.getElem?_eq_some_iff.1 hpi).2, show T.n - 1 - p + 1 = T.n - p by omega] at hj
  rcases List.mem_cons.1 hj with rfl | hj
  · rw [Plan.upd_at, Plan.mn_own hT q hi _ (Nat.le_refl _)]
  · have hne : j ≠ i := fun e => by
      rw [e] at hj
      exact (List.nodup_cons.1 (List.nodup_append.1 hnd).2.1).1 hj
    rw [Plan.upd_ne _ _ hne, h3 j hj]
    have e : Plan.mn T q i (T.lc i) j = q j := Plan.mn_far q _ fun k hk e => by
      have h4 := (ho _ i _ hsplit).2.2 k hk
      rw [e] at h4
      exact (List.nodup_append.1 hnd).2.2 j h4 j (List.mem_cons_of_mem _ hj) rfl
    rw [e]
theorem mn_bd {T : Plan} (hT : T.Ok) {y : Int} {o : List Nat} {p : Nat} {q : Nat → Int} (h : Plan.LateAt T y o p q) {i : Nat} (hi : i < T.n) {k : Nat} (hk : k ≤ T.lc i) {j : Nat} (hj : j < T.n) : y - 1000000 - 2000000 * ((p + 1 : Nat) : Int) ≤ Plan.mn T q i k j ∧ Plan.mn T q i k j ≤ y := by
  refine ⟨Plan.mn_ge hT q hi (fun _ => y - 1000000 - 2000000 * ((p + 1 : Nat) : Int)) (fun j hj => ?_) (fun k hk => ?_) k hk j hj, ?_⟩
  · have := (h.1 j hj).2
    omega
  · have h1 := Plan.wait_bd hT hi hk
    have h2 := (h.1 i hi).2
    omega
  · have h1 := Plan.mn_le (T := T) q i j k
    have h2 := (h.1 j hj).1
    have h3 := (hT.task j hj).head.1
    omega
set_option maxRecDepth 100000 in
set_option maxHeartbeats 8000000 in
theorem late_any (oa : Option Addr) (cap : Nat) (AL AU : Nat → Option Addr) (CL CU : Nat → Nat) (T : Plan) (y : Int) (w : World) (hn : T.n ≤ 9223372036854775807) (hlc : ∀ i, i < T.n → T.lc i ≤ 9223372036854775807 ∧ T.uc i ≤ 9223372036854775807) (hR : PlanR w oa AL AU CL CU T) :
    Calls Tryd.prog 31 #[.slice oa T.n cap, .int .i64 y] w (LateR T y w) := by
  have hend := end_any oa cap AL AU CL CU T w hn hlc hR
  have HR := Lib.hid hR
  clear hR hn hlc
  obtain ⟨n, hnn⟩ : ∃ x, T.n = x := ⟨_, rfl⟩
  have HNN := Lib.hid hnn
  rw [hnn] at hend ⊢
  clear hnn
  go_enter Tryd.func31, Tryd.ntmps31
  go_wp2_with fail
  refine hend.mono ?_
  clear hend
  rintro e w1 ⟨hb1, (⟨hc, rfl⟩ | ⟨hc, s, rfl, hF, hbd⟩)⟩
  · have HB1 := Lib.hid hb1
    have HC := Lib.hid hc
    have HV := Lib.hid (chk_pos hc)
    clear hb1 hc
    rw [HV.out]
    go_wp2_with fail
    go_ret2
    exact ⟨HB1.out, .inl ⟨HC.out, by rw [HV.out]; rfl⟩⟩
  · have HC := Lib.hid hc
    have HOK := Lib.hid (Plan.chk_ok hc)
    have HF := Lib.hid hF
    have HB1 := Lib.hid hb1
    have hlb := last_bd HOK.out hbd T.n (Nat.le_refl _)
    obtain ⟨E, hE⟩ : ∃ x, Plan.last T s T.n = x := ⟨_, rfl⟩
    rw [hE] at hlb ⊢
    have HE := Lib.hid hE
    have hn6 : n ≤ 60 := by rw [← HNN.out]; exact HOK.out.size
    clear hb1 hc hF hbd hE
    by_cases hy : y < E
    · have hyd : decide (y < E) = true := decide_eq_true hy
      go_wp2_with fail
      go_ret2
      exact ⟨HB1.out, .inr ⟨HC.out, s, HF.out, .inl ⟨by rw [HE.out]; exact hy, rfl⟩⟩⟩
    · have hyd : decide (y < E) = false := decide_eq_false hy
      by_cases hy2 : 1099511627776 < y
      · have hyd2 : decide (1099511627776 < y) = true := decide_eq_true hy2
        go_wp2_with fail
        go_ret2
        exact ⟨HB1.out, .inr ⟨HC.out, s, HF.out, .inr (.inl ⟨by rw [HE.out]; omega, hy2, rfl⟩)⟩⟩
      · have hyd2 : decide (1099511627776 < y) = false := decide_eq_false hy2
        obtain ⟨M, hM, hmake⟩ := make_spans n (by omega)
        have HM := Lib.hid hM
        clear hM
        go_wp2_with fail
        have hcall := order_any oa cap AL AU CL CU T w1 HOK.out.size HOK.out.task (HR.out.call HB1.out)
        rw [HNN.out] at hcall
        refine hcall.mono ?_
        clear hcall
        rintro e w2 ⟨hb2, o, hTo, (⟨hl, v, rfl, hv⟩ | ⟨hl, hs, rfl⟩)⟩
        · have HB2 := Lib.hid (thenB HB1.out hb2)
          have HTO := Lib.hid hTo
          have HV := Lib.hid hv
          obtain ⟨ob, cap2, hve, _, _, _⟩ := hv
          rw [hl, HNN.out] at hve
          subst hve
          have HL := Lib.hid (show o.length = n by rw [hl, HNN.out])
          have hw12 := HB1.out.size
          clear hb2 hTo hl
          go_wp2_with fail
          refine (reverse_ints (by omega) HL.out HV.out).mono ?_
          rintro e w3 ⟨⟨v3, rfl⟩, hO3, hb3⟩
          have HO3 := Lib.hid hO3
          have HB3 := Lib.hid (HB2.out.trans (hb3.mono hw12))
          clear hO3 hb3
          go_wp2_with fail
          have HO4 := Lib.hid (HO3.out.call (Below.alloc (Below.refl _ _) (Nat.le_refl _) (.cells M 38)))
          have HS4 := Lib.hid (OwnS.new w3 n M 38 HM.out)
          have HL4 := Lib.hid (Below.alloc (Below.refl w3.heap.size w3) (Nat.le_refl _) (.cells M 38))
          have hz3 := HB3.out.size
          clear hmake
          go_loopw [46] (fun c wr => ∃ k : Nat, c = .int .i64 (k : Int) ∧ k ≤ n ∧ Hid (OwnS wr w3.heap.size n (fun j => if j < k then y - T.len j else 0) (fun _ => 0)) ∧ Hid (Below w3.heap.size w3 wr)) (fun c _ => n - (intOf c).toNat)
          case atStart => exact ⟨0, rfl, by omega, Lib.hid (HS4.out.congr (fun j _ => by rw [if_neg (Nat.not_lt_zero j)]) fun _ _ => rfl), HL4⟩
          case round =>
            clear HS4 HL4
            obtain ⟨k, rfl, hk, HS, HLB⟩ := hrel
            obtain ⟨wA, rfl⟩ : ∃ wo : World, wo = wr := ⟨_, rfl⟩
            have HBA := Lib.hid (HB3.out.trans (HLB.out.mono hz3))
            by_cases hkn : k < n
            · have HIN := Lib.hid (show k < T.n by rw [HNN.out]; exact hkn)
              have HRA := Lib.hid (HR.out.call HBA.out)
              obtain ⟨a, rfl⟩ := HRA.out.1 (by rw [HNN.out]; omega)
              obtain ⟨c0, _⟩ := HRA.out.at HIN.out
              have hLb := (HOK.out.task k HIN.out).head.1
              obtain ⟨⟨e1, e2⟩, _, _⟩ := HS.out.2 k hkn
              simp only [Nat.lt_irrefl, if_false] at e1
              have hst := HS.out.set0 hkn (y - T.len k)
              have hc2 := (HLB.out.setCell (p := ⟨w3.heap.size, k * 2, none⟩) (Nat.le_refl _) (.int .i64 (y - T.len k)))
              obtain ⟨L, hL⟩ : ∃ x, T.len k = x := ⟨_, rfl⟩
              rw [hL] at c0 hLb hc2
              rw [hL] at hst
              have HST := Lib.hid (hst.congr (f' := fun j => if j < k + 1 then y - T.len j else 0) (fun j hj => by
                by_cases e : j = k
                · subst e; rw [Plan.upd_at, if_pos (by omega), hL]
                · rw [Plan.upd_ne _ _ e]
                  by_cases e3 : j < k
                  · rw [if_pos e3, if_pos (by omega)]
                  · rw [if_neg e3, if_neg (by omega)]) fun _ _ => rfl)
              have HC2 := Lib.hid hc2
              have i1 : (0 : Int) ≤ (k : Int) := by omega
              have i2 : (k : Int) < (n : Int) := by omega
              clear hst hc2 hL
              go_wp2_with fail
              go_roundw
              case rel => exact ⟨k + 1, by go_num, by omega, HST, HC2⟩
              case measure => simp [intOf]; omega
            · obtain rfl : n = k := by omega
              have HLS := Lib.hid (show LSt T y o w w3.heap.size n 0 (fun j => y - T.len j) (fun _ => 0) wA from
                ⟨HS.out.congr (fun j hj => by rw [if_pos hj]) fun _ _ => rfl, Plan.LateAt.zero HOK.out y (by rw [HL.out, HNN.out]), fun i hi => by rw [Nat.sub_zero, List.drop_of_length_le (by rw [HL.out]; exact Nat.le_refl _)] at hi; simp at hi, HBA.out, hz3⟩)
              clear HS HBA
              go_wp2_with fail
              go_loopw [63] (fun c wr => ∃ (p : Nat) (q t : Nat → Int), c = .int .i64 (p : Int) ∧ p ≤ n ∧ Hid (LSt T y o w w3.heap.size n p q t wr) ∧ Hid (Below w3.heap.size w3 wr)) (fun c _ => n - (intOf c).toNat)
              case atStart => exact ⟨0, _, _, rfl, by omega, HLS, HLB⟩
              case round =>
                clear HLS HLB
                obtain ⟨p, q, t, rfl, hp, HS, HLB⟩ := hrel
                obtain ⟨wA, rfl⟩ : ∃ wo : World, wo = wr := ⟨_, rfl⟩
                by_cases hpn : p < n
                · have hpo : p < o.reverse.length := by rw [List.length_reverse, HL.out]; exact hpn
                  obtain ⟨g, rfl, hcell⟩ := (HO3.out.call HLB.out).at hpo
                  obtain ⟨i, hi⟩ : ∃ i, o.reverse.getD p 0 = i := ⟨_, rfl⟩
                  have hoi : o[n - 1 - p]? = some i := by
                    have hpo2 : p < o.length := by rw [HL.out]; exact hpn
                    have h1 : o.reverse[p]? = some i := by rw [← hi]; simp [List.getD, hpo2]
                    rw [List.getElem?_reverse hpo2, HL.out] at h1
                    exact h1
                  rw [hi] at hcell
                  have HOI := Lib.hid hoi
                  have hin : i < n := by
                    have := HTO.out.lt (List.mem_of_getElem? hoi)
                    rw [HNN.out] at this
                    exact this
                  have HIN := Lib.hid (show i < T.n by rw [HNN.out]; exact hin)
                  clear hi hoi hpo
                  have HRA := Lib.hid (HR.out.call HS.out.2.2.2.1)
                  obtain ⟨a, rfl⟩ := HRA.out.1 (by rw [HNN.out]; omega)
                  obtain ⟨c0, _, _, _⟩ := HRA.out.at HIN.out
                  have HTK := Lib.hid (HOK.out.task i HIN.out)
                  have hlcb := HTK.out.head.2.2.1
                  have hLb := HTK.out.head.1
                  have hQb := HS.out.2.1.1 i HIN.out
                  obtain ⟨⟨e1, e2⟩, e3, e4⟩ := HS.out.1.2 i hin
                  have hwz := HS.out.1.1
                  obtain ⟨L, hL⟩ : ∃ x, T.len i = x := ⟨_, rfl⟩
                  obtain ⟨lc, hlcE⟩ : ∃ x, T.lc i = x := ⟨_, rfl⟩
                  obtain ⟨al, hal⟩ : ∃ x, AL i = x := ⟨_, rfl⟩
                  obtain ⟨cl, hcl⟩ : ∃ x, CL i = x := ⟨_, rfl⟩
                  obtain ⟨Q, hQ⟩ : ∃ x, q i = x := ⟨_, rfl⟩
                  rw [hL] at c0 hLb hQb
                  rw [hlcE] at hlcb
                  rw [hQ] at e1 hQb
                  have i1 : (0 : Int) ≤ (i : Int) := by omega
                  have i2 : (i : Int) < (n : Int) := by omega
                  have HE2 := Lib.hid (And.intro hL (And.intro hQ (And.intro hlcE (And.intro hal hcl))))
                  have r1 := cell_regrown c0
                  have r2 := cell_regrown e1
                  clear hL hal hlcE hcl hQ c0 e1 e2 e3 e4
                  go_wp2_with fail
                  refine wp_region_below_tail 15 (by kernel_rfl) (by kernel_rfl) ?_
                  simp only [List.take_succ_cons, List.take_zero, List.drop_succ_cons, List.drop_zero]
                  repeat (go_big_quiet_step (fail))
                  refine wpQuiet_nil ?_
                  intro w4 hb4
                  have HS4 := Lib.hid (HS.out.call hb4)
                  have HLB4 := Lib.hid (HLB.out.trans (hb4.mono HLB.out.size))
                  clear hb4 r1 r2
                  obtain ⟨⟨e1, e2⟩, e3, e4⟩ := HS4.out.1.2 i hin
                  have hm0 : MSt T w w3.heap.size n i 0 q (Plan.upd t i (Q + L)) (w4.setCell ⟨w3.heap.size, i * 2 + 1, none⟩ (.int .i64 (Q + L))) :=
                    ⟨HS4.out.1.set1 hin _, HS4.out.2.2.2.1.setCell (by exact hz3) _, hz3⟩
                  have HM0 := Lib.hid hm0
                  have HLB5 := Lib.hid (HLB4.out.setCell (p := ⟨w3.heap.size, i * 2 + 1, none⟩) (Nat.le_refl _) (.int .i64 (Q + L)))
                  obtain ⟨_, _, c2, _⟩ := (HR.out.call HM0.out.2.1).at HIN.out
                  rw [HE2.out.2.2.2.1, HE2.out.2.2.1, HE2.out.2.2.2.2] at c2
                  clear hm0
                  go_wp2_with fail
                  clear c2 e1 e2 e3 e4 hcell
                  go_loopw [88] (fun c wr => ∃ k : Nat, c = .int .i64 (k : Int) ∧ k ≤ lc ∧ Hid (MSt T w w3.heap.size n i k q (Plan.upd t i (Q + L)) wr) ∧ Hid (Below w3.heap.size w3 wr)) (fun c _ => lc - (intOf c).toNat)
                  case atStart => exact ⟨0, rfl, by omega, HM0, HLB5⟩
                  case round =>
                    clear HM0 HLB5 HS4 HLB4
                    obtain ⟨k, rfl, hk, HM, HLB2⟩ := hrel
                    obtain ⟨wB, rfl⟩ : ∃ wo : World, wo = wr := ⟨_, rfl⟩
                    by_cases hkl : k < lc
                    · have HKL := Lib.hid (show k < T.lc i by rw [HE2.out.2.2.1]; exact hkl)
                      have hLK := (HR.out.call HM.out.2.1).links HIN.out
                      rw [HE2.out.2.2.1, HE2.out.2.2.2.1] at hLK
                      obtain ⟨b, rfl⟩ := hLK.1 (by omega)
                      obtain ⟨d0, d1, d2⟩ := hLK.at hkl
                      clear hLK
                      obtain ⟨q1, _, q3⟩ := Plan.to_lt HOK.out HIN.out HKL.out
                      have hwb := Plan.wait_bd HOK.out HIN.out HKL.out
                      have hXb := mn_bd HOK.out HS.out.2.1 HIN.out (Nat.le_of_lt HKL.out) q1
                      have hYb := mn_bd HOK.out HS.out.2.1 HIN.out (Nat.le_of_lt HKL.out) HIN.out
                      have hW : ∀ w', PlanR w' (some a) AL AU CL CU T → Calls Tryd.prog 41 #[.slice (some a) T.n cap, .int .i64 (i : Int), .agg #[.int .i64 (T.lt i k), .int .i64 (T.lk i k), .int .i64 (T.lg i k)]] w' fun e w2 => e = .returned (.int .i64 (T.wait i k)) ∧ Below w'.heap.size w' w2 := fun w' h => wait_any (some a) cap AL AU CL CU T i k w' HOK.out HIN.out HKL.out h
                      have hcx := (HM.out.1.2 (T.to i k) (by rw [← HNN.out]; exact q1)).1.1
                      have hcy := (HM.out.1.2 i hin).1.1
                      have hstep := fun (wr' : World) (h : MSt T w w3.heap.size n i k q (Plan.upd t i (Q + L)) wr') => h.step (show T.to i k < n by rw [← HNN.out]; exact q1)
                      have hown := fun (wr' : World) (h : MSt T w w3.heap.size n i k q (Plan.upd t i (Q + L)) wr') => (h.1.2 (T.to i k) (by rw [← HNN.out]; exact q1)).1
                      rw [q3] at d0 hW
                      obtain ⟨z, hz⟩ : ∃ x, T.to i k = x := ⟨_, rfl⟩
                      obtain ⟨kk, hkk⟩ : ∃ x, T.lk i k = x := ⟨_, rfl⟩
                      obtain ⟨gg, hgg⟩ : ∃ x, T.lg i k = x := ⟨_, rfl⟩
                      obtain ⟨WT, hWT⟩ : ∃ x, T.wait i k = x := ⟨_, rfl⟩
                      simp only [hz, hWT] at hstep hown
                      rw [hz] at d0 q1 hXb hcx
                      rw [HNN.out] at q1
                      rw [hkk] at d1
                      rw [hgg] at d2
                      rw [hWT] at hwb
                      rw [hz, hkk, hgg, hWT, HNN.out] at hW
                      obtain ⟨X, hX⟩ : ∃ x, Plan.mn T q i k z = x := ⟨_, rfl⟩
                      obtain ⟨Y, hY⟩ : ∃ x, Plan.mn T q i k i = x := ⟨_, rfl⟩
                      rw [hX] at hXb hcx
                      rw [hY] at hYb hcy
                      simp only [hX, hY] at hstep hown
                      have HW := Lib.hid hW
                      have HST := Lib.hid hstep
                      have HOWN := Lib.hid hown
                      have j1 : (0 : Int) ≤ (z : Int) := by omega
                      have j2 : (z : Int) < (n : Int) := by omega
                      have hBl := HM.out.1.1
                      have HMA := Lib.hid (HM.out.call (Below.alloc (Below.refl _ _) (Nat.le_refl _) (.cells #[.int .i64 (z : Int), .int .i64 kk, .int .i64 gg] 43)))
                      have HLA := Lib.hid (HLB2.out.alloc HLB2.out.size (.cells #[.int .i64 (z : Int), .int .i64 kk, .int .i64 gg] 43))
                      have r1 := cell_regrown ((World.cell?_alloc_lt wB (.cells #[.int .i64 (z : Int), .int .i64 kk, .int .i64 gg] 43) ⟨w3.heap.size, z * 2, none⟩ hBl).trans hcx)
                      have r0 := cell_regrown ((World.cell?_alloc_lt wB (.cells #[.int .i64 (z : Int), .int .i64 kk, .int .i64 gg] 43) ⟨w3.heap.size, i * 2, none⟩ hBl).trans hcy)
                      have r2 := cell_regrown (show (wB.alloc (.cells #[.int .i64 (z : Int), .int .i64 kk, .int .i64 gg] 43)).cell? ⟨wB.heap.size, 0, none⟩ = some (.int .i64 (z : Int)) by simp)
                      have r3 := cell_regrown (show (wB.alloc (.cells #[.int .i64 (z : Int), .int .i64 kk, .int .i64 gg] 43)).cell? ⟨wB.heap.size, 1, none⟩ = some (.int .i64 kk) by simp)
                      have r4 := cell_regrown (show (wB.alloc (.cells #[.int .i64 (z : Int), .int .i64 kk, .int .i64 gg] 43)).cell? ⟨wB.heap.size, 2, none⟩ = some (.int .i64 gg) by simp)
                      clear hz hkk hgg hWT hW q3 hcx hcy hX hY hstep hown
                      go_wp2_with fail
                      refine wp_region_below_tail 22 (by kernel_rfl) (by kernel_rfl) ?_
                      simp only [List.take_succ_cons, List.take_zero, List.drop_succ_cons, List.drop_zero]
                      repeat (go_big_quiet_step ((go_at_call 41; exact Calls.regrown_of (HW.out _ (HR.out.call (HMA.out.2.1.trans ((below_regrown _ _ _).mono HMA.out.2.1.size)))))))
                      refine wpQuiet_nil ?_
                      intro w5 hb5
                      have HM5 := Lib.hid (HMA.out.call hb5)
                      have HL5 := Lib.hid (HLA.out.trans (hb5.mono HLA.out.size))
                      clear hb5 r0 r1 r2 r3 r4
                      obtain ⟨e1, e2⟩ := HOWN.out w5 HM5.out
                      have hmin : min X (Y - WT) = if Y - WT < X then Y - WT else X := by split <;> omega
                      have hm6 := HST.out w5 HM5.out
                      rw [hmin] at hm6
                      have HM6 := Lib.hid hm6
                      have HL6 := Lib.hid (HL5.out.setCell (p := ⟨w3.heap.size, z * 2, none⟩) (Nat.le_refl _) (.int .i64 (if Y - WT < X then Y - WT else X)))
                      clear hm6 hmin
                      go_wp2_with fail
                      go_roundw
                      case rel => exact ⟨k + 1, by go_num, by omega, HM6, HL6⟩
                      case measure => simp [intOf]; omega
                    · obtain rfl : lc = k := by omega
                      have hls := LSt.step HOK.out HTO.out (by rw [HL.out, HNN.out]) HNN.out HS.out.2.1 HS.out.2.2.1 hpn HOI.out (wr := wB) (by rw [HE2.out.2.2.1, HE2.out.2.1, HE2.out.1]; exact HM.out)
                      have HLS := Lib.hid hls
                      clear hls
                      go_wp2_with fail
                      go_roundw
                      case rel => exact ⟨p + 1, _, _, by go_num, by omega, HLS, HLB2⟩
                      case measure => simp [intOf]; omega
                · obtain rfl : n = p := by omega
                  go_wp2_with fail
                  go_ret2
                  refine ⟨HS.out.2.2.2.1, .inr ⟨HC.out, s, HF.out, .inr (.inr ⟨by rw [HE.out]; omega, by omega, w3.heap.size, q, by rw [HNN.out]; rfl, hz3, ?_, ?_, fun i hi => ?_⟩)⟩⟩
                  · rw [HNN.out]
                    refine HS.out.1.congr (fun _ _ => rfl) fun i hi => HS.out.2.2.1 i ?_
                    rw [Nat.sub_self, List.drop_zero]
                    exact HTO.out.full (by rw [HL.out, HNN.out]) (by rw [HNN.out]; exact hi)
                  · have h1 := HS.out.2.1
                    rw [← HNN.out] at h1
                    exact h1.latest HTO.out (by rw [HL.out, HNN.out])
                  · have h1 := HS.out.2.1.1 i hi
                    have h2 := (HOK.out.task i hi).head.1
                    omega
        · exact absurd HOK.out.full (hs.not_full hl)
end Go.Proofs.YthhaopdimilmcaaDoor
