/- The law MomentsAlgebra (printed by genMomN.py). -/
import Derived.Test.YtikhjlankomghaaMomO
namespace Go.Proofs.Ytikhjlankomghaa
open Go.RowKit
/-- Numbers that lie somewhere. -/
def NumR (w : World) (ob : Option Addr) (m : Nat) (u : Nat → Int) : Prop :=
  (0 < m → ∃ b, ob = some b) ∧ ∀ b, ob = some b → (0 < m → b.block < w.heap.size) ∧ ∀ j, j < m → w.cell? (b.add j) = some (.int .i64 (u j))
theorem NumR.call {w w' : World} {ob : Option Addr} {m : Nat} {u : Nat → Int} (h : NumR w ob m u) (hb : Below w.heap.size w w') : NumR w' ob m u := by
  refine ⟨h.1, fun b e => ?_⟩
  obtain ⟨h1, h2⟩ := h.2 b e
  refine ⟨fun h0 => Nat.lt_of_lt_of_le (h1 h0) hb.size, fun j hj => ?_⟩
  have hl : b.block < w.heap.size := h1 (by omega)
  exact (hb.cell (p := b.add j) (by rw [ivAdd_block]; exact hl)).trans (h2 j hj)
theorem NumR.at {w : World} {b : Addr} {m : Nat} {u : Nat → Int} (h : NumR w (some b) m u) {j : Nat} (hj : j < m) : w.cell? (b.add j) = some (.int .i64 (u j)) := (h.2 b rfl).2 j hj
def InsQ (q s : Bool) (l : List Iv) (x : Int) : Prop := s = true ↔ (q = true ∧ InL l x)
def QI (q : Bool) (p : Prop) : Prop := q = true ↔ p
theorem sameQ {q A P Q I : Prop} (h2 : A ↔ P ∧ Q ∧ I) (h4 : q ↔ P ∧ Q) : (q ∧ I) ↔ A := by rw [h2, h4, and_assoc]
theorem orQ {la lb o : List Iv} {qa qb : Bool} {x : Int} (h : OrM la lb o) (ha : QI qa (InL la x)) (hb : QI qb (InL lb x)) : QI (qa || qb) (InL o x) := by unfold QI at *; rw [h.2.1, ← ha, ← hb]; simp
theorem andQ {la lb o : List Iv} {qa qb : Bool} {x : Int} (h : AndM la lb o) (ha : QI qa (InL la x)) (hb : QI qb (InL lb x)) : QI (qa && qb) (InL o x) := by unfold QI at *; rw [h.2.1, ← ha, ← hb]; simp
theorem lessQ {la lb o : List Iv} {qa qb : Bool} {x : Int} (h : LessM la lb o) (ha : QI qa (InL la x)) (hb : QI qb (InL lb x)) : QI (qa && !qb) (InL o x) := by unfold QI at *; rw [h.2.1, ← ha, ← hb]; cases qb <;> simp
theorem notQ {la o : List Iv} {qa qi : Bool} {x : Int} (h : NotM la o) (ha : QI qa (InL la x)) (hi : QI qi (loM ≤ x ∧ x < hiM)) : QI (qi && !qa) (InL o x) := by unfold QI at *; rw [h.2.1, ← ha, ← and_assoc, ← hi]; cases qa <;> simp

set_option maxRecDepth 100000 in
set_option maxHeartbeats 16000000 in
theorem momentsAlgebra_walk (v1 v2 v3 : Value) (l1 l2 l3 : List Iv) (ot : Option Addr) (mt ct : Nat) (u : Nat → Int) (w : World) (h1 : IvS w v1 l1) (h2 : IvS w v2 l2) (h3 : IvS w v3 l3) (hu : NumR w ot mt u) :
    Calls Try.prog 3 #[v1, v2, v3, .slice ot mt ct] w fun e w' => e = .returned (.bool true) ∧ Below w.heap.size w w' := by
  have H1 := Lib.hid h1
  have H2 := Lib.hid h2
  have H3 := Lib.hid h3
  have HU := Lib.hid hu
  obtain ⟨ob1, cap1, rfl, -, -⟩ := id h1
  obtain ⟨ob2, cap2, rfl, -, -⟩ := id h2
  obtain ⟨ob3, cap3, rfl, -, -⟩ := id h3
  obtain ⟨n1, hm1⟩ : ∃ n, l1.length = n := ⟨_, rfl⟩
  obtain ⟨n2, hm2⟩ : ∃ n, l2.length = n := ⟨_, rfl⟩
  obtain ⟨n3, hm3⟩ : ∃ n, l3.length = n := ⟨_, rfl⟩
  rw [hm1] at H1 ⊢
  rw [hm2] at H2 ⊢
  rw [hm3] at H3 ⊢
  have HM := Lib.hid (And.intro hm1 (And.intro hm2 hm3))
  clear h1 h2 h3 hu hm1 hm2 hm3
  by_cases c1 : 64 < n1
  · have d1 : decide ((64 : Int) < (n1 : Int)) = true := decide_eq_true (by omega)
    go_enter Try.func3, Try.ntmps3
    go_wp2_with fail
    go_ret
    exact ⟨rfl, Below.refl _ _⟩
  have d1 : decide ((64 : Int) < (n1 : Int)) = false := decide_eq_false (by omega)
  by_cases c2 : 64 < n2
  · have d2 : decide ((64 : Int) < (n2 : Int)) = true := decide_eq_true (by omega)
    go_enter Try.func3, Try.ntmps3
    go_wp2_with fail
    go_ret
    exact ⟨rfl, Below.refl _ _⟩
  have d2 : decide ((64 : Int) < (n2 : Int)) = false := decide_eq_false (by omega)
  by_cases c3 : 64 < n3
  · have d3 : decide ((64 : Int) < (n3 : Int)) = true := decide_eq_true (by omega)
    go_enter Try.func3, Try.ntmps3
    go_wp2_with fail
    go_ret
    exact ⟨rfl, Below.refl _ _⟩
  have d3 : decide ((64 : Int) < (n3 : Int)) = false := decide_eq_false (by omega)
  have hs1 : l1.length ≤ 64 := by rw [HM.out.1]; omega
  have hs2 : l2.length ≤ 64 := by rw [HM.out.2.1]; omega
  have hs3 : l3.length ≤ 64 := by rw [HM.out.2.2]; omega
  have HS := Lib.hid (And.intro hs1 (And.intro hs2 hs3))
  clear hs1 hs2 hs3
  go_enter Try.func3, Try.ntmps3
  go_wp2_with fail
  refine (ptimes_any _ l1 w H1.out (by have := HS.out.1; omega)).mono ?_
  rintro e wa ⟨va, la, rfl, hOa, hva, -, hba⟩
  have HBA := Lib.hid hba
  have HVA := Lib.hid hva
  have HOA := Lib.hid hOa
  clear hba hva hOa
  go_wp2_with fail
  refine (ptimes_any _ l2 wa (H2.out.call HBA.out) (by have := HS.out.2.1; omega)).mono ?_
  rintro e wb ⟨vb, lb, rfl, hOb, hvb, -, hbb⟩
  have HVA := Lib.hid (HVA.out.call hbb)
  have HBB := Lib.hid (thenB HBA.out hbb)
  have HVB := Lib.hid hvb
  have HOB := Lib.hid hOb
  clear hbb hvb hOb
  go_wp2_with fail
  refine (ptimes_any _ l3 wb (H3.out.call HBB.out) (by have := HS.out.2.2; omega)).mono ?_
  rintro e wc ⟨vc, lc, rfl, hOc, hvc, -, hbc⟩
  have HVA := Lib.hid (HVA.out.call hbc)
  have HVB := Lib.hid (HVB.out.call hbc)
  have HBC := Lib.hid (thenB HBB.out hbc)
  have HVC := Lib.hid hvc
  have HOC := Lib.hid hOc
  clear hbc hvc hOc
  obtain ⟨oa, ca, rfl, -, -⟩ := id HVA.out
  obtain ⟨ob, cb, rfl, -, -⟩ := id HVB.out
  obtain ⟨oc, cc, rfl, -, -⟩ := id HVC.out
  have NA := Lib.hid HOA.out.norm
  have NB := Lib.hid HOB.out.norm
  have NC := Lib.hid HOC.out.norm
  have BA := Lib.hid (show la.length ≤ 64 from Nat.le_trans HOA.out.len HS.out.1)
  have BB := Lib.hid (show lb.length ≤ 64 from Nat.le_trans HOB.out.len HS.out.2.1)
  have BC := Lib.hid (show lc.length ≤ 64 from Nat.le_trans HOC.out.len HS.out.2.2)
  obtain ⟨na, hna⟩ : ∃ n, la.length = n := ⟨_, rfl⟩
  obtain ⟨nb, hnb⟩ : ∃ n, lb.length = n := ⟨_, rfl⟩
  obtain ⟨nc, hnc⟩ : ∃ n, lc.length = n := ⟨_, rfl⟩
  rw [hna] at HVA ⊢
  rw [hnb] at HVB ⊢
  rw [hnc] at HVC ⊢
  have HINA := Lib.hid (show ∀ x, InL la x ↔ loM ≤ x ∧ x < hiM ∧ InL l1 x from HOA.out.inl)
  clear hna hnb hnc HOA HOB HOC
  go_wp2_with fail
  have HBW := Lib.hid (((HBC.out.alloc HBC.out.size (.cells #[.slice oa na ca] 27)).alloc (by have := HBC.out.size; simp; omega) (.cells #[.slice ob nb cb] 27)).alloc (by have := HBC.out.size; simp; omega) (.cells #[.slice oc nc cc] 27))
  obtain ⟨w0, hw0⟩ : ∃ x, ((wc.alloc (.cells #[.slice oa na ca] 27)).alloc (.cells #[.slice ob nb cb] 27)).alloc (.cells #[.slice oc nc cc] 27) = x := ⟨_, rfl⟩
  have Za := Lib.hid (show Bx w0 wc.heap.size (.slice oa na ca) la from ⟨⟨by rw [← hw0]; simp; omega, by rw [← hw0]; simp [go_sem]⟩, by rw [← hw0]; exact ((HVA.out.allocs _).allocs _).allocs _⟩)
  have Zb := Lib.hid (show Bx w0 (wc.heap.size + 1) (.slice ob nb cb) lb from ⟨⟨by rw [← hw0]; simp, by rw [← hw0]; simp [go_sem]⟩, by rw [← hw0]; exact ((HVB.out.allocs _).allocs _).allocs _⟩)
  have Zc := Lib.hid (show Bx w0 (wc.heap.size + 1 + 1) (.slice oc nc cc) lc from ⟨⟨by rw [← hw0]; simp, by rw [← hw0]; simp [go_sem]⟩, by rw [← hw0]; exact ((HVC.out.allocs _).allocs _).allocs _⟩)
  rw [hw0] at HBW ⊢
  clear hw0 HVA HVB HVC HBA HBB HBC
  go_loopw [12] (fun c wr => ∃ i : Nat, c = .int .i64 (i : Int) ∧ i ≤ 512 ∧ Hid (Below w.heap.size w wr) ∧ Hid (Bx wr wc.heap.size (.slice oa na ca) la) ∧ Hid (Bx wr (wc.heap.size + 1) (.slice ob nb cb) lb) ∧ Hid (Bx wr (wc.heap.size + 1 + 1) (.slice oc nc cc) lc)) (fun c _ => 512 - (intOf c).toNat)
  case atStart => exact ⟨0, rfl, by omega, HBW, Za, Zb, Zc⟩
  case round =>
    clear HBW Za Zb Zc
    obtain ⟨i, rfl, hi, HBW, Za, Zb, Zc⟩ := hrel
    obtain ⟨wR, rfl⟩ : ∃ wo : World, wo = wr := ⟨_, rfl⟩
    by_cases hgo : i < mt ∧ i < 512
    · obtain ⟨hg1, hg2⟩ := hgo
      obtain ⟨bt, rfl⟩ := HU.out.1 (by omega)
      have hcx := (HU.out.call HBW.out).at hg1
      obtain ⟨T, hT⟩ : ∃ T, u i = T := ⟨_, rfl⟩
      rw [hT] at hcx
      clear hT
      by_cases g1 : -1152921504606846976 ≤ T
      · by_cases g2 : T < 1152921504606846976
        · by_cases ha : InL la T
          · by_cases hb : InL lb T
            · have HQA : Hid (QI true (InL la T)) := Lib.hid (by unfold QI; simpa using ha)
              have HQB : Hid (QI true (InL lb T)) := Lib.hid (by unfold QI; simpa using hb)
              have HQI : Hid (QI true (loM ≤ T ∧ T < hiM)) := Lib.hid ⟨fun _ => ⟨g1, g2⟩, fun _ => rfl⟩
              have CA : Hid (∀ w0, Below wR.heap.size wR w0 → Calls Try.prog 5 #[.agg #[.slice oa na ca], .int .i64 T] w0 fun e w' => e = .returned (.bool true) ∧ Below w0.heap.size w0 w') := Lib.hid fun w0 hb0 => phas_any _ la T _ w0 (Za.out.2.call hb0) (Nat.le_trans BA.out (by decide)) HQA.out
              have CB : Hid (∀ w0, Below wR.heap.size wR w0 → Calls Try.prog 5 #[.agg #[.slice ob nb cb], .int .i64 T] w0 fun e w' => e = .returned (.bool true) ∧ Below w0.heap.size w0 w') := Lib.hid fun w0 hb0 => phas_any _ lb T _ w0 (Zb.out.2.call hb0) (Nat.le_trans BB.out (by decide)) HQB.out
              clear ha hb
              obtain ⟨⟨za1, za2⟩, -⟩ := Za.out
              obtain ⟨⟨zb1, zb2⟩, -⟩ := Zb.out
              have r1 := cell_regrown za2
              have r2 := cell_regrown zb2
              go_wp2_with fail
              refine wp_region_below (by kernel_rfl) (by kernel_rfl) ?_
              repeat (go_big_quiet_step ((go_at_call 5; exact Calls.regrown_of (by first | with_reducible exact CA.out _ (below_regrown _ _ _) | with_reducible exact CB.out _ (below_regrown _ _ _)))))
              refine wpQuiet_nil ?_
              intro w1 hb1
              have Za := Lib.hid (Za.out.call hb1)
              have Zb := Lib.hid (Zb.out.call hb1)
              have Zc := Lib.hid (Zc.out.call hb1)
              have HBW := Lib.hid (thenB HBW.out hb1)
              clear hb1 r1 r2 za1 za2 zb1 zb2 CA CB hcx
              go_wp2_with fail
              go_loopw [17, 18] (fun b c wl => ∃ (s : Bool) (k : Nat), b = .bool s ∧ c = .int .i64 (k : Int) ∧ k ≤ n1 ∧ wl = w1 ∧ Hid (InsQ true s (l1.take k) T)) (fun _ c _ => n1 - (intOf c).toNat)
              case atStart => exact ⟨false, 0, rfl, rfl, by omega, (by trivial), Lib.hid (by simp [InsQ, InL])⟩
              case round =>
                obtain ⟨s, k, rfl, rfl, hk, rfl, HS1⟩ := hrel
                by_cases hkn : k < n1
                · have HT := Lib.hid (inL_take (l := l1) (k := k) (by rw [HM.out.1]; exact hkn) T)
                  cases s
                  · obtain ⟨_, _, ecc, -, hR1⟩ := H1.out.call HBW.out
                    cases ecc
                    obtain ⟨b1, rfl⟩ := hR1.1 (by rw [HM.out.1]; omega)
                    obtain ⟨x1, x2⟩ := hR1.at (show k < l1.length by rw [HM.out.1]; exact hkn)
                    obtain ⟨F, hF⟩ : ∃ F, (l1.getD k iv0).1 = F := ⟨_, rfl⟩
                    obtain ⟨E, hE⟩ : ∃ E, (l1.getD k iv0).2 = E := ⟨_, rfl⟩
                    rw [hF] at x1
                    rw [hE] at x2
                    rw [hF, hE] at HT
                    clear hF hE hR1
                    by_cases g1 : F ≤ T
                    · by_cases g2 : T < E
                      · go_wp2_with fail
                        go_roundw
                        case rel => exact ⟨true, k + 1, rfl, by go_num, by omega, (by trivial), Lib.hid (by unfold InsQ; rw [HT.out]; exact ⟨fun _ => ⟨rfl, .inr ⟨g1, g2⟩⟩, fun _ => rfl⟩)⟩
                        case measure => simp [intOf]; omega
                      · go_wp2_with fail
                        go_roundw
                        case rel => exact ⟨false, k + 1, rfl, by go_num, by omega, (by trivial), Lib.hid (by have hs := HS1.out; unfold InsQ at hs ⊢; rw [HT.out, hs]; exact ⟨fun h => ⟨h.1, .inl h.2⟩, fun h => ⟨h.1, h.2.resolve_right fun h => g2 h.2⟩⟩)⟩
                        case measure => simp [intOf]; omega
                    · go_wp2_with fail
                      go_roundw
                      case rel => exact ⟨false, k + 1, rfl, by go_num, by omega, (by trivial), Lib.hid (by have hs := HS1.out; unfold InsQ at hs ⊢; rw [HT.out, hs]; exact ⟨fun h => ⟨h.1, .inl h.2⟩, fun h => ⟨h.1, h.2.resolve_right fun h => g1 h.1⟩⟩)⟩
                      case measure => simp [intOf]; omega
                  · go_wp2_with fail
                    go_roundw
                    case rel => exact ⟨true, k + 1, rfl, by go_num, by omega, (by trivial), Lib.hid (by unfold InsQ; rw [HT.out]; exact ⟨fun h => ⟨(HS1.out.1 h).1, .inl (HS1.out.1 h).2⟩, fun _ => rfl⟩)⟩
                    case measure => simp [intOf]; omega
                · obtain rfl : s = true := by
                    have h1 := HS1.out
                    unfold InsQ at h1
                    rw [List.take_of_length_le (by rw [HM.out.1]; omega)] at h1
                    have h2 := HINA.out T
                    have h3 : true = true ↔ InL la T := HQA.out
                    have h4 : true = true ↔ loM ≤ T ∧ T < hiM := HQI.out
                    exact Bool.eq_iff_iff.2 (h1.trans (Iff.trans (sameQ h2 h4) h3.symm))
                  clear HS1
                  obtain ⟨⟨za1, za2⟩, -⟩ := Za.out
                  obtain ⟨⟨zb1, zb2⟩, -⟩ := Zb.out
                  go_wp2_with (first
                      | ((fail_if_success (have _z := MO0)); go_at_call 6; refine (por_any _ _ la lb _ (Za.out.2) (Zb.out.2) (Nat.le_trans (Nat.add_le_add BA.out BB.out) (by decide)) NA.out NB.out).mono ?_; rintro e wo0 ⟨vo0, lo0, rfl, ho, hv, -, hb⟩; have MO0 := Lib.hid (show True from trivial); have HO0 := Lib.hid ho; have HQ0 : Hid (QI true (InL lo0 T)) := Lib.hid (orQ (qa := true) (qb := true) HO0.out HQA.out HQB.out); have HD0 := Lib.hid (show lo0.length ≤ 128 from Nat.le_trans ho.2.2 (Nat.add_le_add BA.out BB.out)); have HV0 := Lib.hid hv; have Za := Lib.hid (Za.out.call hb); have Zb := Lib.hid (Zb.out.call hb); have Zc := Lib.hid (Zc.out.call hb); have HBW := Lib.hid (thenB HBW.out hb); clear ho hv hb za1 za2 zb1 zb2; obtain ⟨⟨za1, za2⟩, -⟩ := Za.out; obtain ⟨⟨zb1, zb2⟩, -⟩ := Zb.out; try dsimp only)
                      | (have _z := MO0; (fail_if_success (have _z := MP0)); go_at_call 5; refine (phas_any _ lo0 T true _ HV0.out (Nat.le_trans HD0.out (by decide)) HQ0.out).mono ?_; rintro e wp0 ⟨rfl, hb⟩; have MP0 := Lib.hid (show True from trivial); have Za := Lib.hid (Za.out.call hb); have Zb := Lib.hid (Zb.out.call hb); have Zc := Lib.hid (Zc.out.call hb); have HBW := Lib.hid (thenB HBW.out hb); clear hb za1 za2 zb1 zb2; obtain ⟨⟨za1, za2⟩, -⟩ := Za.out; obtain ⟨⟨zb1, zb2⟩, -⟩ := Zb.out; try dsimp only)
                      | ((fail_if_success (have _z := MO1)); go_at_call 7; refine (pand_any _ _ la lb _ (Za.out.2) (Zb.out.2) (Nat.le_trans (Nat.mul_le_mul BA.out BB.out) (by decide)) (Nat.le_trans BA.out (by decide)) (Nat.le_trans BB.out (by decide)) NA.out).mono ?_; rintro e wo1 ⟨vo1, lo1, rfl, ho, hv, -, hb⟩; have MO1 := Lib.hid (show True from trivial); have HO1 := Lib.hid ho; have HQ1 : Hid (QI true (InL lo1 T)) := Lib.hid (andQ (qa := true) (qb := true) HO1.out HQA.out HQB.out); have HD1 := Lib.hid (show lo1.length ≤ 4096 from Nat.le_trans ho.2.2 (Nat.mul_le_mul BA.out BB.out)); have HV1 := Lib.hid hv; have Za := Lib.hid (Za.out.call hb); have Zb := Lib.hid (Zb.out.call hb); have Zc := Lib.hid (Zc.out.call hb); have HBW := Lib.hid (thenB HBW.out hb); clear ho hv hb za1 za2 zb1 zb2; obtain ⟨⟨za1, za2⟩, -⟩ := Za.out; obtain ⟨⟨zb1, zb2⟩, -⟩ := Zb.out; try dsimp only)
                      | (have _z := MO1; (fail_if_success (have _z := MP1)); go_at_call 5; refine (phas_any _ lo1 T true _ HV1.out (Nat.le_trans HD1.out (by decide)) HQ1.out).mono ?_; rintro e wp1 ⟨rfl, hb⟩; have MP1 := Lib.hid (show True from trivial); have Za := Lib.hid (Za.out.call hb); have Zb := Lib.hid (Zb.out.call hb); have Zc := Lib.hid (Zc.out.call hb); have HBW := Lib.hid (thenB HBW.out hb); clear hb za1 za2 zb1 zb2; obtain ⟨⟨za1, za2⟩, -⟩ := Za.out; obtain ⟨⟨zb1, zb2⟩, -⟩ := Zb.out; try dsimp only)
                      | ((fail_if_success (have _z := MO2)); go_at_call 8; refine (pless_any _ _ la lb _ (Za.out.2) (Zb.out.2) (Nat.le_trans (Nat.mul_le_mul BA.out (Nat.add_le_add BB.out (Nat.le_refl 1))) (by decide)) (Nat.le_trans BA.out (by decide)) (Nat.le_trans BB.out (by decide)) NA.out NB.out).mono ?_; rintro e wo2 ⟨vo2, lo2, rfl, ho, hv, -, hb⟩; have MO2 := Lib.hid (show True from trivial); have HO2 := Lib.hid ho; have HQ2 : Hid (QI false (InL lo2 T)) := Lib.hid (lessQ (qa := true) (qb := true) HO2.out HQA.out HQB.out); have HD2 := Lib.hid (show lo2.length ≤ 4160 from Nat.le_trans ho.2.2 (Nat.mul_le_mul BA.out (Nat.add_le_add BB.out (Nat.le_refl 1)))); have HV2 := Lib.hid hv; have Za := Lib.hid (Za.out.call hb); have Zb := Lib.hid (Zb.out.call hb); have Zc := Lib.hid (Zc.out.call hb); have HBW := Lib.hid (thenB HBW.out hb); clear ho hv hb za1 za2 zb1 zb2; obtain ⟨⟨za1, za2⟩, -⟩ := Za.out; obtain ⟨⟨zb1, zb2⟩, -⟩ := Zb.out; try dsimp only)
                      | (have _z := MO2; (fail_if_success (have _z := MP2)); go_at_call 5; refine (phas_any _ lo2 T false _ HV2.out (Nat.le_trans HD2.out (by decide)) HQ2.out).mono ?_; rintro e wp2 ⟨rfl, hb⟩; have MP2 := Lib.hid (show True from trivial); have Za := Lib.hid (Za.out.call hb); have Zb := Lib.hid (Zb.out.call hb); have Zc := Lib.hid (Zc.out.call hb); have HBW := Lib.hid (thenB HBW.out hb); clear hb za1 za2 zb1 zb2; obtain ⟨⟨za1, za2⟩, -⟩ := Za.out; obtain ⟨⟨zb1, zb2⟩, -⟩ := Zb.out; try dsimp only)
                      | ((fail_if_success (have _z := MO3)); go_at_call 9; refine (pnot_any _ la _ (Za.out.2) (Nat.le_trans BA.out (by decide)) NA.out).mono ?_; rintro e wo3 ⟨vo3, lo3, rfl, ho, hv, -, hb⟩; have MO3 := Lib.hid (show True from trivial); have HO3 := Lib.hid ho; have HQ3 : Hid (QI false (InL lo3 T)) := Lib.hid (notQ (qa := true) (qi := true) HO3.out HQA.out HQI.out); have HD3 := Lib.hid (show lo3.length ≤ 65 from Nat.le_trans ho.2.2 (Nat.add_le_add BA.out (Nat.le_refl 1))); have HV3 := Lib.hid hv; have Za := Lib.hid (Za.out.call hb); have Zb := Lib.hid (Zb.out.call hb); have Zc := Lib.hid (Zc.out.call hb); have HBW := Lib.hid (thenB HBW.out hb); clear ho hv hb za1 za2 zb1 zb2; obtain ⟨⟨za1, za2⟩, -⟩ := Za.out; obtain ⟨⟨zb1, zb2⟩, -⟩ := Zb.out; try dsimp only)
                      | (have _z := MO3; (fail_if_success (have _z := MP3)); go_at_call 5; refine (phas_any _ lo3 T false _ HV3.out (Nat.le_trans HD3.out (by decide)) HQ3.out).mono ?_; rintro e wp3 ⟨rfl, hb⟩; have MP3 := Lib.hid (show True from trivial); have Za := Lib.hid (Za.out.call hb); have Zb := Lib.hid (Zb.out.call hb); have Zc := Lib.hid (Zc.out.call hb); have HBW := Lib.hid (thenB HBW.out hb); clear hb za1 za2 zb1 zb2; obtain ⟨⟨za1, za2⟩, -⟩ := Za.out; obtain ⟨⟨zb1, zb2⟩, -⟩ := Zb.out; try dsimp only))
                  go_roundw
                  case rel => exact ⟨i + 1, by go_num, by omega, HBW, Za, Zb, Zc⟩
                  case measure => simp [intOf]; omega
            · have HQA : Hid (QI true (InL la T)) := Lib.hid (by unfold QI; simpa using ha)
              have HQB : Hid (QI false (InL lb T)) := Lib.hid (by unfold QI; simpa using hb)
              have HQI : Hid (QI true (loM ≤ T ∧ T < hiM)) := Lib.hid ⟨fun _ => ⟨g1, g2⟩, fun _ => rfl⟩
              have CA : Hid (∀ w0, Below wR.heap.size wR w0 → Calls Try.prog 5 #[.agg #[.slice oa na ca], .int .i64 T] w0 fun e w' => e = .returned (.bool true) ∧ Below w0.heap.size w0 w') := Lib.hid fun w0 hb0 => phas_any _ la T _ w0 (Za.out.2.call hb0) (Nat.le_trans BA.out (by decide)) HQA.out
              have CB : Hid (∀ w0, Below wR.heap.size wR w0 → Calls Try.prog 5 #[.agg #[.slice ob nb cb], .int .i64 T] w0 fun e w' => e = .returned (.bool false) ∧ Below w0.heap.size w0 w') := Lib.hid fun w0 hb0 => phas_any _ lb T _ w0 (Zb.out.2.call hb0) (Nat.le_trans BB.out (by decide)) HQB.out
              clear ha hb
              obtain ⟨⟨za1, za2⟩, -⟩ := Za.out
              obtain ⟨⟨zb1, zb2⟩, -⟩ := Zb.out
              have r1 := cell_regrown za2
              have r2 := cell_regrown zb2
              go_wp2_with fail
              refine wp_region_below (by kernel_rfl) (by kernel_rfl) ?_
              repeat (go_big_quiet_step ((go_at_call 5; exact Calls.regrown_of (by first | with_reducible exact CA.out _ (below_regrown _ _ _) | with_reducible exact CB.out _ (below_regrown _ _ _)))))
              refine wpQuiet_nil ?_
              intro w1 hb1
              have Za := Lib.hid (Za.out.call hb1)
              have Zb := Lib.hid (Zb.out.call hb1)
              have Zc := Lib.hid (Zc.out.call hb1)
              have HBW := Lib.hid (thenB HBW.out hb1)
              clear hb1 r1 r2 za1 za2 zb1 zb2 CA CB hcx
              go_wp2_with fail
              go_loopw [17, 18] (fun b c wl => ∃ (s : Bool) (k : Nat), b = .bool s ∧ c = .int .i64 (k : Int) ∧ k ≤ n1 ∧ wl = w1 ∧ Hid (InsQ true s (l1.take k) T)) (fun _ c _ => n1 - (intOf c).toNat)
              case atStart => exact ⟨false, 0, rfl, rfl, by omega, (by trivial), Lib.hid (by simp [InsQ, InL])⟩
              case round =>
                obtain ⟨s, k, rfl, rfl, hk, rfl, HS1⟩ := hrel
                by_cases hkn : k < n1
                · have HT := Lib.hid (inL_take (l := l1) (k := k) (by rw [HM.out.1]; exact hkn) T)
                  cases s
                  · obtain ⟨_, _, ecc, -, hR1⟩ := H1.out.call HBW.out
                    cases ecc
                    obtain ⟨b1, rfl⟩ := hR1.1 (by rw [HM.out.1]; omega)
                    obtain ⟨x1, x2⟩ := hR1.at (show k < l1.length by rw [HM.out.1]; exact hkn)
                    obtain ⟨F, hF⟩ : ∃ F, (l1.getD k iv0).1 = F := ⟨_, rfl⟩
                    obtain ⟨E, hE⟩ : ∃ E, (l1.getD k iv0).2 = E := ⟨_, rfl⟩
                    rw [hF] at x1
                    rw [hE] at x2
                    rw [hF, hE] at HT
                    clear hF hE hR1
                    by_cases g1 : F ≤ T
                    · by_cases g2 : T < E
                      · go_wp2_with fail
                        go_roundw
                        case rel => exact ⟨true, k + 1, rfl, by go_num, by omega, (by trivial), Lib.hid (by unfold InsQ; rw [HT.out]; exact ⟨fun _ => ⟨rfl, .inr ⟨g1, g2⟩⟩, fun _ => rfl⟩)⟩
                        case measure => simp [intOf]; omega
                      · go_wp2_with fail
                        go_roundw
                        case rel => exact ⟨false, k + 1, rfl, by go_num, by omega, (by trivial), Lib.hid (by have hs := HS1.out; unfold InsQ at hs ⊢; rw [HT.out, hs]; exact ⟨fun h => ⟨h.1, .inl h.2⟩, fun h => ⟨h.1, h.2.resolve_right fun h => g2 h.2⟩⟩)⟩
                        case measure => simp [intOf]; omega
                    · go_wp2_with fail
                      go_roundw
                      case rel => exact ⟨false, k + 1, rfl, by go_num, by omega, (by trivial), Lib.hid (by have hs := HS1.out; unfold InsQ at hs ⊢; rw [HT.out, hs]; exact ⟨fun h => ⟨h.1, .inl h.2⟩, fun h => ⟨h.1, h.2.resolve_right fun h => g1 h.1⟩⟩)⟩
                      case measure => simp [intOf]; omega
                  · go_wp2_with fail
                    go_roundw
                    case rel => exact ⟨true, k + 1, rfl, by go_num, by omega, (by trivial), Lib.hid (by unfold InsQ; rw [HT.out]; exact ⟨fun h => ⟨(HS1.out.1 h).1, .inl (HS1.out.1 h).2⟩, fun _ => rfl⟩)⟩
                    case measure => simp [intOf]; omega
                · obtain rfl : s = true := by
                    have h1 := HS1.out
                    unfold InsQ at h1
                    rw [List.take_of_length_le (by rw [HM.out.1]; omega)] at h1
                    have h2 := HINA.out T
                    have h3 : true = true ↔ InL la T := HQA.out
                    have h4 : true = true ↔ loM ≤ T ∧ T < hiM := HQI.out
                    exact Bool.eq_iff_iff.2 (h1.trans (Iff.trans (sameQ h2 h4) h3.symm))
                  clear HS1
                  obtain ⟨⟨za1, za2⟩, -⟩ := Za.out
                  obtain ⟨⟨zb1, zb2⟩, -⟩ := Zb.out
                  go_wp2_with (first
                      | ((fail_if_success (have _z := MO0)); go_at_call 6; refine (por_any _ _ la lb _ (Za.out.2) (Zb.out.2) (Nat.le_trans (Nat.add_le_add BA.out BB.out) (by decide)) NA.out NB.out).mono ?_; rintro e wo0 ⟨vo0, lo0, rfl, ho, hv, -, hb⟩; have MO0 := Lib.hid (show True from trivial); have HO0 := Lib.hid ho; have HQ0 : Hid (QI true (InL lo0 T)) := Lib.hid (orQ (qa := true) (qb := false) HO0.out HQA.out HQB.out); have HD0 := Lib.hid (show lo0.length ≤ 128 from Nat.le_trans ho.2.2 (Nat.add_le_add BA.out BB.out)); have HV0 := Lib.hid hv; have Za := Lib.hid (Za.out.call hb); have Zb := Lib.hid (Zb.out.call hb); have Zc := Lib.hid (Zc.out.call hb); have HBW := Lib.hid (thenB HBW.out hb); clear ho hv hb za1 za2 zb1 zb2; obtain ⟨⟨za1, za2⟩, -⟩ := Za.out; obtain ⟨⟨zb1, zb2⟩, -⟩ := Zb.out; try dsimp only)
                      | (have _z := MO0; (fail_if_success (have _z := MP0)); go_at_call 5; refine (phas_any _ lo0 T true _ HV0.out (Nat.le_trans HD0.out (by decide)) HQ0.out).mono ?_; rintro e wp0 ⟨rfl, hb⟩; have MP0 := Lib.hid (show True from trivial); have Za := Lib.hid (Za.out.call hb); have Zb := Lib.hid (Zb.out.call hb); have Zc := Lib.hid (Zc.out.call hb); have HBW := Lib.hid (thenB HBW.out hb); clear hb za1 za2 zb1 zb2; obtain ⟨⟨za1, za2⟩, -⟩ := Za.out; obtain ⟨⟨zb1, zb2⟩, -⟩ := Zb.out; try dsimp only)
                      | ((fail_if_success (have _z := MO1)); go_at_call 7; refine (pand_any _ _ la lb _ (Za.out.2) (Zb.out.2) (Nat.le_trans (Nat.mul_le_mul BA.out BB.out) (by decide)) (Nat.le_trans BA.out (by decide)) (Nat.le_trans BB.out (by decide)) NA.out).mono ?_; rintro e wo1 ⟨vo1, lo1, rfl, ho, hv, -, hb⟩; have MO1 := Lib.hid (show True from trivial); have HO1 := Lib.hid ho; have HQ1 : Hid (QI false (InL lo1 T)) := Lib.hid (andQ (qa := true) (qb := false) HO1.out HQA.out HQB.out); have HD1 := Lib.hid (show lo1.length ≤ 4096 from Nat.le_trans ho.2.2 (Nat.mul_le_mul BA.out BB.out)); have HV1 := Lib.hid hv; have Za := Lib.hid (Za.out.call hb); have Zb := Lib.hid (Zb.out.call hb); have Zc := Lib.hid (Zc.out.call hb); have HBW := Lib.hid (thenB HBW.out hb); clear ho hv hb za1 za2 zb1 zb2; obtain ⟨⟨za1, za2⟩, -⟩ := Za.out; obtain ⟨⟨zb1, zb2⟩, -⟩ := Zb.out; try dsimp only)
                      | (have _z := MO1; (fail_if_success (have _z := MP1)); go_at_call 5; refine (phas_any _ lo1 T false _ HV1.out (Nat.le_trans HD1.out (by decide)) HQ1.out).mono ?_; rintro e wp1 ⟨rfl, hb⟩; have MP1 := Lib.hid (show True from trivial); have Za := Lib.hid (Za.out.call hb); have Zb := Lib.hid (Zb.out.call hb); have Zc := Lib.hid (Zc.out.call hb); have HBW := Lib.hid (thenB HBW.out hb); clear hb za1 za2 zb1 zb2; obtain ⟨⟨za1, za2⟩, -⟩ := Za.out; obtain ⟨⟨zb1, zb2⟩, -⟩ := Zb.out; try dsimp only)
                      | ((fail_if_success (have _z := MO2)); go_at_call 8; refine (pless_any _ _ la lb _ (Za.out.2) (Zb.out.2) (Nat.le_trans (Nat.mul_le_mul BA.out (Nat.add_le_add BB.out (Nat.le_refl 1))) (by decide)) (Nat.le_trans BA.out (by decide)) (Nat.le_trans BB.out (by decide)) NA.out NB.out).mono ?_; rintro e wo2 ⟨vo2, lo2, rfl, ho, hv, -, hb⟩; have MO2 := Lib.hid (show True from trivial); have HO2 := Lib.hid ho; have HQ2 : Hid (QI true (InL lo2 T)) := Lib.hid (lessQ (qa := true) (qb := false) HO2.out HQA.out HQB.out); have HD2 := Lib.hid (show lo2.length ≤ 4160 from Nat.le_trans ho.2.2 (Nat.mul_le_mul BA.out (Nat.add_le_add BB.out (Nat.le_refl 1)))); have HV2 := Lib.hid hv; have Za := Lib.hid (Za.out.call hb); have Zb := Lib.hid (Zb.out.call hb); have Zc := Lib.hid (Zc.out.call hb); have HBW := Lib.hid (thenB HBW.out hb); clear ho hv hb za1 za2 zb1 zb2; obtain ⟨⟨za1, za2⟩, -⟩ := Za.out; obtain ⟨⟨zb1, zb2⟩, -⟩ := Zb.out; try dsimp only)
                      | (have _z := MO2; (fail_if_success (have _z := MP2)); go_at_call 5; refine (phas_any _ lo2 T true _ HV2.out (Nat.le_trans HD2.out (by decide)) HQ2.out).mono ?_; rintro e wp2 ⟨rfl, hb⟩; have MP2 := Lib.hid (show True from trivial); have Za := Lib.hid (Za.out.call hb); have Zb := Lib.hid (Zb.out.call hb); have Zc := Lib.hid (Zc.out.call hb); have HBW := Lib.hid (thenB HBW.out hb); clear hb za1 za2 zb1 zb2; obtain ⟨⟨za1, za2⟩, -⟩ := Za.out; obtain ⟨⟨zb1, zb2⟩, -⟩ := Zb.out; try dsimp only)
                      | ((fail_if_success (have _z := MO3)); go_at_call 9; refine (pnot_any _ la _ (Za.out.2) (Nat.le_trans BA.out (by decide)) NA.out).mono ?_; rintro e wo3 ⟨vo3, lo3, rfl, ho, hv, -, hb⟩; have MO3 := Lib.hid (show True from trivial); have HO3 := Lib.hid ho; have HQ3 : Hid (QI false (InL lo3 T)) := Lib.hid (notQ (qa := true) (qi := true) HO3.out HQA.out HQI.out); have HD3 := Lib.hid (show lo3.length ≤ 65 from Nat.le_trans ho.2.2 (Nat.add_le_add BA.out (Nat.le_refl 1))); have HV3 := Lib.hid hv; have Za := Lib.hid (Za.out.call hb); have Zb := Lib.hid (Zb.out.call hb); have Zc := Lib.hid (Zc.out.call hb); have HBW := Lib.hid (thenB HBW.out hb); clear ho hv hb za1 za2 zb1 zb2; obtain ⟨⟨za1, za2⟩, -⟩ := Za.out; obtain ⟨⟨zb1, zb2⟩, -⟩ := Zb.out; try dsimp only)
                      | (have _z := MO3; (fail_if_success (have _z := MP3)); go_at_call 5; refine (phas_any _ lo3 T false _ HV3.out (Nat.le_trans HD3.out (by decide)) HQ3.out).mono ?_; rintro e wp3 ⟨rfl, hb⟩; have MP3 := Lib.hid (show True from trivial); have Za := Lib.hid (Za.out.call hb); have Zb := Lib.hid (Zb.out.call hb); have Zc := Lib.hid (Zc.out.call hb); have HBW := Lib.hid (thenB HBW.out hb); clear hb za1 za2 zb1 zb2; obtain ⟨⟨za1, za2⟩, -⟩ := Za.out; obtain ⟨⟨zb1, zb2⟩, -⟩ := Zb.out; try dsimp only))
                  go_roundw
                  case rel => exact ⟨i + 1, by go_num, by omega, HBW, Za, Zb, Zc⟩
                  case measure => simp [intOf]; omega
          · by_cases hb : InL lb T
            · have HQA : Hid (QI false (InL la T)) := Lib.hid (by unfold QI; simpa using ha)
              have HQB : Hid (QI true (InL lb T)) := Lib.hid (by unfold QI; simpa using hb)
              have HQI : Hid (QI true (loM ≤ T ∧ T < hiM)) := Lib.hid ⟨fun _ => ⟨g1, g2⟩, fun _ => rfl⟩
              have CA : Hid (∀ w0, Below wR.heap.size wR w0 → Calls Try.prog 5 #[.agg #[.slice oa na ca], .int .i64 T] w0 fun e w' => e = .returned (.bool false) ∧ Below w0.heap.size w0 w') := Lib.hid fun w0 hb0 => phas_any _ la T _ w0 (Za.out.2.call hb0) (Nat.le_trans BA.out (by decide)) HQA.out
              have CB : Hid (∀ w0, Below wR.heap.size wR w0 → Calls Try.prog 5 #[.agg #[.slice ob nb cb], .int .i64 T] w0 fun e w' => e = .returned (.bool true) ∧ Below w0.heap.size w0 w') := Lib.hid fun w0 hb0 => phas_any _ lb T _ w0 (Zb.out.2.call hb0) (Nat.le_trans BB.out (by decide)) HQB.out
              clear ha hb
              obtain ⟨⟨za1, za2⟩, -⟩ := Za.out
              obtain ⟨⟨zb1, zb2⟩, -⟩ := Zb.out
              have r1 := cell_regrown za2
              have r2 := cell_regrown zb2
              go_wp2_with fail
              refine wp_region_below (by kernel_rfl) (by kernel_rfl) ?_
              repeat (go_big_quiet_step ((go_at_call 5; exact Calls.regrown_of (by first | with_reducible exact CA.out _ (below_regrown _ _ _) | with_reducible exact CB.out _ (below_regrown _ _ _)))))
              refine wpQuiet_nil ?_
              intro w1 hb1
              have Za := Lib.hid (Za.out.call hb1)
              have Zb := Lib.hid (Zb.out.call hb1)
              have Zc := Lib.hid (Zc.out.call hb1)
              have HBW := Lib.hid (thenB HBW.out hb1)
              clear hb1 r1 r2 za1 za2 zb1 zb2 CA CB hcx
              go_wp2_with fail
              go_loopw [17, 18] (fun b c wl => ∃ (s : Bool) (k : Nat), b = .bool s ∧ c = .int .i64 (k : Int) ∧ k ≤ n1 ∧ wl = w1 ∧ Hid (InsQ true s (l1.take k) T)) (fun _ c _ => n1 - (intOf c).toNat)
              case atStart => exact ⟨false, 0, rfl, rfl, by omega, (by trivial), Lib.hid (by simp [InsQ, InL])⟩
              case round =>
                obtain ⟨s, k, rfl, rfl, hk, rfl, HS1⟩ := hrel
                by_cases hkn : k < n1
                · have HT := Lib.hid (inL_take (l := l1) (k := k) (by rw [HM.out.1]; exact hkn) T)
                  cases s
                  · obtain ⟨_, _, ecc, -, hR1⟩ := H1.out.call HBW.out
                    cases ecc
                    obtain ⟨b1, rfl⟩ := hR1.1 (by rw [HM.out.1]; omega)
                    obtain ⟨x1, x2⟩ := hR1.at (show k < l1.length by rw [HM.out.1]; exact hkn)
                    obtain ⟨F, hF⟩ : ∃ F, (l1.getD k iv0).1 = F := ⟨_, rfl⟩
                    obtain ⟨E, hE⟩ : ∃ E, (l1.getD k iv0).2 = E := ⟨_, rfl⟩
                    rw [hF] at x1
                    rw [hE] at x2
                    rw [hF, hE] at HT
                    clear hF hE hR1
                    by_cases g1 : F ≤ T
                    · by_cases g2 : T < E
                      · go_wp2_with fail
                        go_roundw
                        case rel => exact ⟨true, k + 1, rfl, by go_num, by omega, (by trivial), Lib.hid (by unfold InsQ; rw [HT.out]; exact ⟨fun _ => ⟨rfl, .inr ⟨g1, g2⟩⟩, fun _ => rfl⟩)⟩
                        case measure => simp [intOf]; omega
                      · go_wp2_with fail
                        go_roundw
                        case rel => exact ⟨false, k + 1, rfl, by go_num, by omega, (by trivial), Lib.hid (by have hs := HS1.out; unfold InsQ at hs ⊢; rw [HT.out, hs]; exact ⟨fun h => ⟨h.1, .inl h.2⟩, fun h => ⟨h.1, h.2.resolve_right fun h => g2 h.2⟩⟩)⟩
                        case measure => simp [intOf]; omega
                    · go_wp2_with fail
                      go_roundw
                      case rel => exact ⟨false, k + 1, rfl, by go_num, by omega, (by trivial), Lib.hid (by have hs := HS1.out; unfold InsQ at hs ⊢; rw [HT.out, hs]; exact ⟨fun h => ⟨h.1, .inl h.2⟩, fun h => ⟨h.1, h.2.resolve_right fun h => g1 h.1⟩⟩)⟩
                      case measure => simp [intOf]; omega
                  · go_wp2_with fail
                    go_roundw
                    case rel => exact ⟨true, k + 1, rfl, by go_num, by omega, (by trivial), Lib.hid (by unfold InsQ; rw [HT.out]; exact ⟨fun h => ⟨(HS1.out.1 h).1, .inl (HS1.out.1 h).2⟩, fun _ => rfl⟩)⟩
                    case measure => simp [intOf]; omega
                · obtain rfl : s = false := by
                    have h1 := HS1.out
                    unfold InsQ at h1
                    rw [List.take_of_length_le (by rw [HM.out.1]; omega)] at h1
                    have h2 := HINA.out T
                    have h3 : false = true ↔ InL la T := HQA.out
                    have h4 : true = true ↔ loM ≤ T ∧ T < hiM := HQI.out
                    exact Bool.eq_iff_iff.2 (h1.trans (Iff.trans (sameQ h2 h4) h3.symm))
                  clear HS1
                  obtain ⟨⟨za1, za2⟩, -⟩ := Za.out
                  obtain ⟨⟨zb1, zb2⟩, -⟩ := Zb.out
                  go_wp2_with (first
                      | ((fail_if_success (have _z := MO0)); go_at_call 6; refine (por_any _ _ la lb _ (Za.out.2) (Zb.out.2) (Nat.le_trans (Nat.add_le_add BA.out BB.out) (by decide)) NA.out NB.out).mono ?_; rintro e wo0 ⟨vo0, lo0, rfl, ho, hv, -, hb⟩; have MO0 := Lib.hid (show True from trivial); have HO0 := Lib.hid ho; have HQ0 : Hid (QI true (InL lo0 T)) := Lib.hid (orQ (qa := false) (qb := true) HO0.out HQA.out HQB.out); have HD0 := Lib.hid (show lo0.length ≤ 128 from Nat.le_trans ho.2.2 (Nat.add_le_add BA.out BB.out)); have HV0 := Lib.hid hv; have Za := Lib.hid (Za.out.call hb); have Zb := Lib.hid (Zb.out.call hb); have Zc := Lib.hid (Zc.out.call hb); have HBW := Lib.hid (thenB HBW.out hb); clear ho hv hb za1 za2 zb1 zb2; obtain ⟨⟨za1, za2⟩, -⟩ := Za.out; obtain ⟨⟨zb1, zb2⟩, -⟩ := Zb.out; try dsimp only)
                      | (have _z := MO0; (fail_if_success (have _z := MP0)); go_at_call 5; refine (phas_any _ lo0 T true _ HV0.out (Nat.le_trans HD0.out (by decide)) HQ0.out).mono ?_; rintro e wp0 ⟨rfl, hb⟩; have MP0 := Lib.hid (show True from trivial); have Za := Lib.hid (Za.out.call hb); have Zb := Lib.hid (Zb.out.call hb); have Zc := Lib.hid (Zc.out.call hb); have HBW := Lib.hid (thenB HBW.out hb); clear hb za1 za2 zb1 zb2; obtain ⟨⟨za1, za2⟩, -⟩ := Za.out; obtain ⟨⟨zb1, zb2⟩, -⟩ := Zb.out; try dsimp only)
                      | ((fail_if_success (have _z := MO1)); go_at_call 7; refine (pand_any _ _ la lb _ (Za.out.2) (Zb.out.2) (Nat.le_trans (Nat.mul_le_mul BA.out BB.out) (by decide)) (Nat.le_trans BA.out (by decide)) (Nat.le_trans BB.out (by decide)) NA.out).mono ?_; rintro e wo1 ⟨vo1, lo1, rfl, ho, hv, -, hb⟩; have MO1 := Lib.hid (show True from trivial); have HO1 := Lib.hid ho; have HQ1 : Hid (QI false (InL lo1 T)) := Lib.hid (andQ (qa := false) (qb := true) HO1.out HQA.out HQB.out); have HD1 := Lib.hid (show lo1.length ≤ 4096 from Nat.le_trans ho.2.2 (Nat.mul_le_mul BA.out BB.out)); have HV1 := Lib.hid hv; have Za := Lib.hid (Za.out.call hb); have Zb := Lib.hid (Zb.out.call hb); have Zc := Lib.hid (Zc.out.call hb); have HBW := Lib.hid (thenB HBW.out hb); clear ho hv hb za1 za2 zb1 zb2; obtain ⟨⟨za1, za2⟩, -⟩ := Za.out; obtain ⟨⟨zb1, zb2⟩, -⟩ := Zb.out; try dsimp only)
                      | (have _z := MO1; (fail_if_success (have _z := MP1)); go_at_call 5; refine (phas_any _ lo1 T false _ HV1.out (Nat.le_trans HD1.out (by decide)) HQ1.out).mono ?_; rintro e wp1 ⟨rfl, hb⟩; have MP1 := Lib.hid (show True from trivial); have Za := Lib.hid (Za.out.call hb); have Zb := Lib.hid (Zb.out.call hb); have Zc := Lib.hid (Zc.out.call hb); have HBW := Lib.hid (thenB HBW.out hb); clear hb za1 za2 zb1 zb2; obtain ⟨⟨za1, za2⟩, -⟩ := Za.out; obtain ⟨⟨zb1, zb2⟩, -⟩ := Zb.out; try dsimp only)
                      | ((fail_if_success (have _z := MO2)); go_at_call 8; refine (pless_any _ _ la lb _ (Za.out.2) (Zb.out.2) (Nat.le_trans (Nat.mul_le_mul BA.out (Nat.add_le_add BB.out (Nat.le_refl 1))) (by decide)) (Nat.le_trans BA.out (by decide)) (Nat.le_trans BB.out (by decide)) NA.out NB.out).mono ?_; rintro e wo2 ⟨vo2, lo2, rfl, ho, hv, -, hb⟩; have MO2 := Lib.hid (show True from trivial); have HO2 := Lib.hid ho; have HQ2 : Hid (QI false (InL lo2 T)) := Lib.hid (lessQ (qa := false) (qb := true) HO2.out HQA.out HQB.out); have HD2 := Lib.hid (show lo2.length ≤ 4160 from Nat.le_trans ho.2.2 (Nat.mul_le_mul BA.out (Nat.add_le_add BB.out (Nat.le_refl 1)))); have HV2 := Lib.hid hv; have Za := Lib.hid (Za.out.call hb); have Zb := Lib.hid (Zb.out.call hb); have Zc := Lib.hid (Zc.out.call hb); have HBW := Lib.hid (thenB HBW.out hb); clear ho hv hb za1 za2 zb1 zb2; obtain ⟨⟨za1, za2⟩, -⟩ := Za.out; obtain ⟨⟨zb1, zb2⟩, -⟩ := Zb.out; try dsimp only)
                      | (have _z := MO2; (fail_if_success (have _z := MP2)); go_at_call 5; refine (phas_any _ lo2 T false _ HV2.out (Nat.le_trans HD2.out (by decide)) HQ2.out).mono ?_; rintro e wp2 ⟨rfl, hb⟩; have MP2 := Lib.hid (show True from trivial); have Za := Lib.hid (Za.out.call hb); have Zb := Lib.hid (Zb.out.call hb); have Zc := Lib.hid (Zc.out.call hb); have HBW := Lib.hid (thenB HBW.out hb); clear hb za1 za2 zb1 zb2; obtain ⟨⟨za1, za2⟩, -⟩ := Za.out; obtain ⟨⟨zb1, zb2⟩, -⟩ := Zb.out; try dsimp only)
                      | ((fail_if_success (have _z := MO3)); go_at_call 9; refine (pnot_any _ la _ (Za.out.2) (Nat.le_trans BA.out (by decide)) NA.out).mono ?_; rintro e wo3 ⟨vo3, lo3, rfl, ho, hv, -, hb⟩; have MO3 := Lib.hid (show True from trivial); have HO3 := Lib.hid ho; have HQ3 : Hid (QI true (InL lo3 T)) := Lib.hid (notQ (qa := false) (qi := true) HO3.out HQA.out HQI.out); have HD3 := Lib.hid (show lo3.length ≤ 65 from Nat.le_trans ho.2.2 (Nat.add_le_add BA.out (Nat.le_refl 1))); have HV3 := Lib.hid hv; have Za := Lib.hid (Za.out.call hb); have Zb := Lib.hid (Zb.out.call hb); have Zc := Lib.hid (Zc.out.call hb); have HBW := Lib.hid (thenB HBW.out hb); clear ho hv hb za1 za2 zb1 zb2; obtain ⟨⟨za1, za2⟩, -⟩ := Za.out; obtain ⟨⟨zb1, zb2⟩, -⟩ := Zb.out; try dsimp only)
                      | (have _z := MO3; (fail_if_success (have _z := MP3)); go_at_call 5; refine (phas_any _ lo3 T true _ HV3.out (Nat.le_trans HD3.out (by decide)) HQ3.out).mono ?_; rintro e wp3 ⟨rfl, hb⟩; have MP3 := Lib.hid (show True from trivial); have Za := Lib.hid (Za.out.call hb); have Zb := Lib.hid (Zb.out.call hb); have Zc := Lib.hid (Zc.out.call hb); have HBW := Lib.hid (thenB HBW.out hb); clear hb za1 za2 zb1 zb2; obtain ⟨⟨za1, za2⟩, -⟩ := Za.out; obtain ⟨⟨zb1, zb2⟩, -⟩ := Zb.out; try dsimp only))
                  go_roundw
                  case rel => exact ⟨i + 1, by go_num, by omega, HBW, Za, Zb, Zc⟩
                  case measure => simp [intOf]; omega
            · have HQA : Hid (QI false (InL la T)) := Lib.hid (by unfold QI; simpa using ha)
              have HQB : Hid (QI false (InL lb T)) := Lib.hid (by unfold QI; simpa using hb)
              have HQI : Hid (QI true (loM ≤ T ∧ T < hiM)) := Lib.hid ⟨fun _ => ⟨g1, g2⟩, fun _ => rfl⟩
              have CA : Hid (∀ w0, Below wR.heap.size wR w0 → Calls Try.prog 5 #[.agg #[.slice oa na ca], .int .i64 T] w0 fun e w' => e = .returned (.bool false) ∧ Below w0.heap.size w0 w') := Lib.hid fun w0 hb0 => phas_any _ la T _ w0 (Za.out.2.call hb0) (Nat.le_trans BA.out (by decide)) HQA.out
              have CB : Hid (∀ w0, Below wR.heap.size wR w0 → Calls Try.prog 5 #[.agg #[.slice ob nb cb], .int .i64 T] w0 fun e w' => e = .returned (.bool false) ∧ Below w0.heap.size w0 w') := Lib.hid fun w0 hb0 => phas_any _ lb T _ w0 (Zb.out.2.call hb0) (Nat.le_trans BB.out (by decide)) HQB.out
              clear ha hb
              obtain ⟨⟨za1, za2⟩, -⟩ := Za.out
              obtain ⟨⟨zb1, zb2⟩, -⟩ := Zb.out
              have r1 := cell_regrown za2
              have r2 := cell_regrown zb2
              go_wp2_with fail
              refine wp_region_below (by kernel_rfl) (by kernel_rfl) ?_
              repeat (go_big_quiet_step ((go_at_call 5; exact Calls.regrown_of (by first | with_reducible exact CA.out _ (below_regrown _ _ _) | with_reducible exact CB.out _ (below_regrown _ _ _)))))
              refine wpQuiet_nil ?_
              intro w1 hb1
              have Za := Lib.hid (Za.out.call hb1)
              have Zb := Lib.hid (Zb.out.call hb1)
              have Zc := Lib.hid (Zc.out.call hb1)
              have HBW := Lib.hid (thenB HBW.out hb1)
              clear hb1 r1 r2 za1 za2 zb1 zb2 CA CB hcx
              go_wp2_with fail
              go_loopw [17, 18] (fun b c wl => ∃ (s : Bool) (k : Nat), b = .bool s ∧ c = .int .i64 (k : Int) ∧ k ≤ n1 ∧ wl = w1 ∧ Hid (InsQ true s (l1.take k) T)) (fun _ c _ => n1 - (intOf c).toNat)
              case atStart => exact ⟨false, 0, rfl, rfl, by omega, (by trivial), Lib.hid (by simp [InsQ, InL])⟩
              case round =>
                obtain ⟨s, k, rfl, rfl, hk, rfl, HS1⟩ := hrel
                by_cases hkn : k < n1
                · have HT := Lib.hid (inL_take (l := l1) (k := k) (by rw [HM.out.1]; exact hkn) T)
                  cases s
                  · obtain ⟨_, _, ecc, -, hR1⟩ := H1.out.call HBW.out
                    cases ecc
                    obtain ⟨b1, rfl⟩ := hR1.1 (by rw [HM.out.1]; omega)
                    obtain ⟨x1, x2⟩ := hR1.at (show k < l1.length by rw [HM.out.1]; exact hkn)
                    obtain ⟨F, hF⟩ : ∃ F, (l1.getD k iv0).1 = F := ⟨_, rfl⟩
                    obtain ⟨E, hE⟩ : ∃ E, (l1.getD k iv0).2 = E := ⟨_, rfl⟩
                    rw [hF] at x1
                    rw [hE] at x2
                    rw [hF, hE] at HT
                    clear hF hE hR1
                    by_cases g1 : F ≤ T
                    · by_cases g2 : T < E
                      · go_wp2_with fail
                        go_roundw
                        case rel => exact ⟨true, k + 1, rfl, by go_num, by omega, (by trivial), Lib.hid (by unfold InsQ; rw [HT.out]; exact ⟨fun _ => ⟨rfl, .inr ⟨g1, g2⟩⟩, fun _ => rfl⟩)⟩
                        case measure => simp [intOf]; omega
                      · go_wp2_with fail
                        go_roundw
                        case rel => exact ⟨false, k + 1, rfl, by go_num, by omega, (by trivial), Lib.hid (by have hs := HS1.out; unfold InsQ at hs ⊢; rw [HT.out, hs]; exact ⟨fun h => ⟨h.1, .inl h.2⟩, fun h => ⟨h.1, h.2.resolve_right fun h => g2 h.2⟩⟩)⟩
                        case measure => simp [intOf]; omega
                    · go_wp2_with fail
                      go_roundw
                      case rel => exact ⟨false, k + 1, rfl, by go_num, by omega, (by trivial), Lib.hid (by have hs := HS1.out; unfold InsQ at hs ⊢; rw [HT.out, hs]; exact ⟨fun h => ⟨h.1, .inl h.2⟩, fun h => ⟨h.1, h.2.resolve_right fun h => g1 h.1⟩⟩)⟩
                      case measure => simp [intOf]; omega
                  · go_wp2_with fail
                    go_roundw
                    case rel => exact ⟨true, k + 1, rfl, by go_num, by omega, (by trivial), Lib.hid (by unfold InsQ; rw [HT.out]; exact ⟨fun h => ⟨(HS1.out.1 h).1, .inl (HS1.out.1 h).2⟩, fun _ => rfl⟩)⟩
                    case measure => simp [intOf]; omega
                · obtain rfl : s = false := by
                    have h1 := HS1.out
                    unfold InsQ at h1
                    rw [List.take_of_length_le (by rw [HM.out.1]; omega)] at h1
                    have h2 := HINA.out T
                    have h3 : false = true ↔ InL la T := HQA.out
                    have h4 : true = true ↔ loM ≤ T ∧ T < hiM := HQI.out
                    exact Bool.eq_iff_iff.2 (h1.trans (Iff.trans (sameQ h2 h4) h3.symm))
                  clear HS1
                  obtain ⟨⟨za1, za2⟩, -⟩ := Za.out
                  obtain ⟨⟨zb1, zb2⟩, -⟩ := Zb.out
                  go_wp2_with (first
                      | ((fail_if_success (have _z := MO0)); go_at_call 6; refine (por_any _ _ la lb _ (Za.out.2) (Zb.out.2) (Nat.le_trans (Nat.add_le_add BA.out BB.out) (by decide)) NA.out NB.out).mono ?_; rintro e wo0 ⟨vo0, lo0, rfl, ho, hv, -, hb⟩; have MO0 := Lib.hid (show True from trivial); have HO0 := Lib.hid ho; have HQ0 : Hid (QI false (InL lo0 T)) := Lib.hid (orQ (qa := false) (qb := false) HO0.out HQA.out HQB.out); have HD0 := Lib.hid (show lo0.length ≤ 128 from Nat.le_trans ho.2.2 (Nat.add_le_add BA.out BB.out)); have HV0 := Lib.hid hv; have Za := Lib.hid (Za.out.call hb); have Zb := Lib.hid (Zb.out.call hb); have Zc := Lib.hid (Zc.out.call hb); have HBW := Lib.hid (thenB HBW.out hb); clear ho hv hb za1 za2 zb1 zb2; obtain ⟨⟨za1, za2⟩, -⟩ := Za.out; obtain ⟨⟨zb1, zb2⟩, -⟩ := Zb.out; try dsimp only)
                      | (have _z := MO0; (fail_if_success (have _z := MP0)); go_at_call 5; refine (phas_any _ lo0 T false _ HV0.out (Nat.le_trans HD0.out (by decide)) HQ0.out).mono ?_; rintro e wp0 ⟨rfl, hb⟩; have MP0 := Lib.hid (show True from trivial); have Za := Lib.hid (Za.out.call hb); have Zb := Lib.hid (Zb.out.call hb); have Zc := Lib.hid (Zc.out.call hb); have HBW := Lib.hid (thenB HBW.out hb); clear hb za1 za2 zb1 zb2; obtain ⟨⟨za1, za2⟩, -⟩ := Za.out; obtain ⟨⟨zb1, zb2⟩, -⟩ := Zb.out; try dsimp only)
                      | ((fail_if_success (have _z := MO1)); go_at_call 7; refine (pand_any _ _ la lb _ (Za.out.2) (Zb.out.2) (Nat.le_trans (Nat.mul_le_mul BA.out BB.out) (by decide)) (Nat.le_trans BA.out (by decide)) (Nat.le_trans BB.out (by decide)) NA.out).mono ?_; rintro e wo1 ⟨vo1, lo1, rfl, ho, hv, -, hb⟩; have MO1 := Lib.hid (show True from trivial); have HO1 := Lib.hid ho; have HQ1 : Hid (QI false (InL lo1 T)) := Lib.hid (andQ (qa := false) (qb := false) HO1.out HQA.out HQB.out); have HD1 := Lib.hid (show lo1.length ≤ 4096 from Nat.le_trans ho.2.2 (Nat.mul_le_mul BA.out BB.out)); have HV1 := Lib.hid hv; have Za := Lib.hid (Za.out.call hb); have Zb := Lib.hid (Zb.out.call hb); have Zc := Lib.hid (Zc.out.call hb); have HBW := Lib.hid (thenB HBW.out hb); clear ho hv hb za1 za2 zb1 zb2; obtain ⟨⟨za1, za2⟩, -⟩ := Za.out; obtain ⟨⟨zb1, zb2⟩, -⟩ := Zb.out; try dsimp only)
                      | (have _z := MO1; (fail_if_success (have _z := MP1)); go_at_call 5; refine (phas_any _ lo1 T false _ HV1.out (Nat.le_trans HD1.out (by decide)) HQ1.out).mono ?_; rintro e wp1 ⟨rfl, hb⟩; have MP1 := Lib.hid (show True from trivial); have Za := Lib.hid (Za.out.call hb); have Zb := Lib.hid (Zb.out.call hb); have Zc := Lib.hid (Zc.out.call hb); have HBW := Lib.hid (thenB HBW.out hb); clear hb za1 za2 zb1 zb2; obtain ⟨⟨za1, za2⟩, -⟩ := Za.out; obtain ⟨⟨zb1, zb2⟩, -⟩ := Zb.out; try dsimp only)
                      | ((fail_if_success (have _z := MO2)); go_at_call 8; refine (pless_any _ _ la lb _ (Za.out.2) (Zb.out.2) (Nat.le_trans (Nat.mul_le_mul BA.out (Nat.add_le_add BB.out (Nat.le_refl 1))) (by decide)) (Nat.le_trans BA.out (by decide)) (Nat.le_trans BB.out (by decide)) NA.out NB.out).mono ?_; rintro e wo2 ⟨vo2, lo2, rfl, ho, hv, -, hb⟩; have MO2 := Lib.hid (show True from trivial); have HO2 := Lib.hid ho; have HQ2 : Hid (QI false (InL lo2 T)) := Lib.hid (lessQ (qa := false) (qb := false) HO2.out HQA.out HQB.out); have HD2 := Lib.hid (show lo2.length ≤ 4160 from Nat.le_trans ho.2.2 (Nat.mul_le_mul BA.out (Nat.add_le_add BB.out (Nat.le_refl 1)))); have HV2 := Lib.hid hv; have Za := Lib.hid (Za.out.call hb); have Zb := Lib.hid (Zb.out.call hb); have Zc := Lib.hid (Zc.out.call hb); have HBW := Lib.hid (thenB HBW.out hb); clear ho hv hb za1 za2 zb1 zb2; obtain ⟨⟨za1, za2⟩, -⟩ := Za.out; obtain ⟨⟨zb1, zb2⟩, -⟩ := Zb.out; try dsimp only)
                      | (have _z := MO2; (fail_if_success (have _z := MP2)); go_at_call 5; refine (phas_any _ lo2 T false _ HV2.out (Nat.le_trans HD2.out (by decide)) HQ2.out).mono ?_; rintro e wp2 ⟨rfl, hb⟩; have MP2 := Lib.hid (show True from trivial); have Za := Lib.hid (Za.out.call hb); have Zb := Lib.hid (Zb.out.call hb); have Zc := Lib.hid (Zc.out.call hb); have HBW := Lib.hid (thenB HBW.out hb); clear hb za1 za2 zb1 zb2; obtain ⟨⟨za1, za2⟩, -⟩ := Za.out; obtain ⟨⟨zb1, zb2⟩, -⟩ := Zb.out; try dsimp only)
                      | ((fail_if_success (have _z := MO3)); go_at_call 9; refine (pnot_any _ la _ (Za.out.2) (Nat.le_trans BA.out (by decide)) NA.out).mono ?_; rintro e wo3 ⟨vo3, lo3, rfl, ho, hv, -, hb⟩; have MO3 := Lib.hid (show True from trivial); have HO3 := Lib.hid ho; have HQ3 : Hid (QI true (InL lo3 T)) := Lib.hid (notQ (qa := false) (qi := true) HO3.out HQA.out HQI.out); have HD3 := Lib.hid (show lo3.length ≤ 65 from Nat.le_trans ho.2.2 (Nat.add_le_add BA.out (Nat.le_refl 1))); have HV3 := Lib.hid hv; have Za := Lib.hid (Za.out.call hb); have Zb := Lib.hid (Zb.out.call hb); have Zc := Lib.hid (Zc.out.call hb); have HBW := Lib.hid (thenB HBW.out hb); clear ho hv hb za1 za2 zb1 zb2; obtain ⟨⟨za1, za2⟩, -⟩ := Za.out; obtain ⟨⟨zb1, zb2⟩, -⟩ := Zb.out; try dsimp only)
                      | (have _z := MO3; (fail_if_success (have _z := MP3)); go_at_call 5; refine (phas_any _ lo3 T true _ HV3.out (Nat.le_trans HD3.out (by decide)) HQ3.out).mono ?_; rintro e wp3 ⟨rfl, hb⟩; have MP3 := Lib.hid (show True from trivial); have Za := Lib.hid (Za.out.call hb); have Zb := Lib.hid (Zb.out.call hb); have Zc := Lib.hid (Zc.out.call hb); have HBW := Lib.hid (thenB HBW.out hb); clear hb za1 za2 zb1 zb2; obtain ⟨⟨za1, za2⟩, -⟩ := Za.out; obtain ⟨⟨zb1, zb2⟩, -⟩ := Zb.out; try dsimp only))
                  go_roundw
                  case rel => exact ⟨i + 1, by go_num, by omega, HBW, Za, Zb, Zc⟩
                  case measure => simp [intOf]; omega
        · have ha : ¬ InL la T := fun h => g2 (NA.out.range h).2
          have hb : ¬ InL lb T := fun h => g2 (NB.out.range h).2
          have g3 : decide (T < 1152921504606846976) = false := decide_eq_false g2
          have HQA : Hid (QI false (InL la T)) := Lib.hid (by unfold QI; simpa using ha)
          have HQB : Hid (QI false (InL lb T)) := Lib.hid (by unfold QI; simpa using hb)
          have HQI : Hid (QI false (loM ≤ T ∧ T < hiM)) := Lib.hid ⟨fun h => Bool.noConfusion h, fun h => absurd h.2 g2⟩
          have CA : Hid (∀ w0, Below wR.heap.size wR w0 → Calls Try.prog 5 #[.agg #[.slice oa na ca], .int .i64 T] w0 fun e w' => e = .returned (.bool false) ∧ Below w0.heap.size w0 w') := Lib.hid fun w0 hb0 => phas_any _ la T _ w0 (Za.out.2.call hb0) (Nat.le_trans BA.out (by decide)) HQA.out
          have CB : Hid (∀ w0, Below wR.heap.size wR w0 → Calls Try.prog 5 #[.agg #[.slice ob nb cb], .int .i64 T] w0 fun e w' => e = .returned (.bool false) ∧ Below w0.heap.size w0 w') := Lib.hid fun w0 hb0 => phas_any _ lb T _ w0 (Zb.out.2.call hb0) (Nat.le_trans BB.out (by decide)) HQB.out
          clear ha hb
          obtain ⟨⟨za1, za2⟩, -⟩ := Za.out
          obtain ⟨⟨zb1, zb2⟩, -⟩ := Zb.out
          have r1 := cell_regrown za2
          have r2 := cell_regrown zb2
          go_wp2_with fail
          refine wp_region_below (by kernel_rfl) (by kernel_rfl) ?_
          repeat (go_big_quiet_step ((go_at_call 5; exact Calls.regrown_of (by first | with_reducible exact CA.out _ (below_regrown _ _ _) | with_reducible exact CB.out _ (below_regrown _ _ _)))))
          refine wpQuiet_nil ?_
          intro w1 hb1
          have Za := Lib.hid (Za.out.call hb1)
          have Zb := Lib.hid (Zb.out.call hb1)
          have Zc := Lib.hid (Zc.out.call hb1)
          have HBW := Lib.hid (thenB HBW.out hb1)
          clear hb1 r1 r2 za1 za2 zb1 zb2 CA CB hcx
          go_wp2_with fail
          go_loopw [17, 18] (fun b c wl => ∃ (s : Bool) (k : Nat), b = .bool s ∧ c = .int .i64 (k : Int) ∧ k ≤ n1 ∧ wl = w1 ∧ Hid (InsQ false s (l1.take k) T)) (fun _ c _ => n1 - (intOf c).toNat)
          case atStart => exact ⟨false, 0, rfl, rfl, by omega, (by trivial), Lib.hid (by simp [InsQ, InL])⟩
          case round =>
            obtain ⟨s, k, rfl, rfl, hk, rfl, HS1⟩ := hrel
            by_cases hkn : k < n1
            · have HT := Lib.hid (inL_take (l := l1) (k := k) (by rw [HM.out.1]; exact hkn) T)
              cases s
              · go_wp2_with fail
                go_roundw
                case rel => exact ⟨false, k + 1, rfl, by go_num, by omega, (by trivial), Lib.hid (by simp [InsQ])⟩
                case measure => simp [intOf]; omega
              · go_wp2_with fail
                go_roundw
                case rel => exact ⟨true, k + 1, rfl, by go_num, by omega, (by trivial), Lib.hid (by unfold InsQ; rw [HT.out]; exact ⟨fun h => ⟨(HS1.out.1 h).1, .inl (HS1.out.1 h).2⟩, fun _ => rfl⟩)⟩
                case measure => simp [intOf]; omega
            · obtain rfl : s = false := by
                have h1 := HS1.out
                unfold InsQ at h1
                rw [List.take_of_length_le (by rw [HM.out.1]; omega)] at h1
                have h2 := HINA.out T
                have h3 : false = true ↔ InL la T := HQA.out
                have h4 : false = true ↔ loM ≤ T ∧ T < hiM := HQI.out
                exact Bool.eq_iff_iff.2 (h1.trans (Iff.trans (sameQ h2 h4) h3.symm))
              clear HS1
              obtain ⟨⟨za1, za2⟩, -⟩ := Za.out
              obtain ⟨⟨zb1, zb2⟩, -⟩ := Zb.out
              go_wp2_with (first
                  | ((fail_if_success (have _z := MO0)); go_at_call 6; refine (por_any _ _ la lb _ (Za.out.2) (Zb.out.2) (Nat.le_trans (Nat.add_le_add BA.out BB.out) (by decide)) NA.out NB.out).mono ?_; rintro e wo0 ⟨vo0, lo0, rfl, ho, hv, -, hb⟩; have MO0 := Lib.hid (show True from trivial); have HO0 := Lib.hid ho; have HQ0 : Hid (QI false (InL lo0 T)) := Lib.hid (orQ (qa := false) (qb := false) HO0.out HQA.out HQB.out); have HD0 := Lib.hid (show lo0.length ≤ 128 from Nat.le_trans ho.2.2 (Nat.add_le_add BA.out BB.out)); have HV0 := Lib.hid hv; have Za := Lib.hid (Za.out.call hb); have Zb := Lib.hid (Zb.out.call hb); have Zc := Lib.hid (Zc.out.call hb); have HBW := Lib.hid (thenB HBW.out hb); clear ho hv hb za1 za2 zb1 zb2; obtain ⟨⟨za1, za2⟩, -⟩ := Za.out; obtain ⟨⟨zb1, zb2⟩, -⟩ := Zb.out; try dsimp only)
                  | (have _z := MO0; (fail_if_success (have _z := MP0)); go_at_call 5; refine (phas_any _ lo0 T false _ HV0.out (Nat.le_trans HD0.out (by decide)) HQ0.out).mono ?_; rintro e wp0 ⟨rfl, hb⟩; have MP0 := Lib.hid (show True from trivial); have Za := Lib.hid (Za.out.call hb); have Zb := Lib.hid (Zb.out.call hb); have Zc := Lib.hid (Zc.out.call hb); have HBW := Lib.hid (thenB HBW.out hb); clear hb za1 za2 zb1 zb2; obtain ⟨⟨za1, za2⟩, -⟩ := Za.out; obtain ⟨⟨zb1, zb2⟩, -⟩ := Zb.out; try dsimp only)
                  | ((fail_if_success (have _z := MO1)); go_at_call 7; refine (pand_any _ _ la lb _ (Za.out.2) (Zb.out.2) (Nat.le_trans (Nat.mul_le_mul BA.out BB.out) (by decide)) (Nat.le_trans BA.out (by decide)) (Nat.le_trans BB.out (by decide)) NA.out).mono ?_; rintro e wo1 ⟨vo1, lo1, rfl, ho, hv, -, hb⟩; have MO1 := Lib.hid (show True from trivial); have HO1 := Lib.hid ho; have HQ1 : Hid (QI false (InL lo1 T)) := Lib.hid (andQ (qa := false) (qb := false) HO1.out HQA.out HQB.out); have HD1 := Lib.hid (show lo1.length ≤ 4096 from Nat.le_trans ho.2.2 (Nat.mul_le_mul BA.out BB.out)); have HV1 := Lib.hid hv; have Za := Lib.hid (Za.out.call hb); have Zb := Lib.hid (Zb.out.call hb); have Zc := Lib.hid (Zc.out.call hb); have HBW := Lib.hid (thenB HBW.out hb); clear ho hv hb za1 za2 zb1 zb2; obtain ⟨⟨za1, za2⟩, -⟩ := Za.out; obtain ⟨⟨zb1, zb2⟩, -⟩ := Zb.out; try dsimp only)
                  | (have _z := MO1; (fail_if_success (have _z := MP1)); go_at_call 5; refine (phas_any _ lo1 T false _ HV1.out (Nat.le_trans HD1.out (by decide)) HQ1.out).mono ?_; rintro e wp1 ⟨rfl, hb⟩; have MP1 := Lib.hid (show True from trivial); have Za := Lib.hid (Za.out.call hb); have Zb := Lib.hid (Zb.out.call hb); have Zc := Lib.hid (Zc.out.call hb); have HBW := Lib.hid (thenB HBW.out hb); clear hb za1 za2 zb1 zb2; obtain ⟨⟨za1, za2⟩, -⟩ := Za.out; obtain ⟨⟨zb1, zb2⟩, -⟩ := Zb.out; try dsimp only)
                  | ((fail_if_success (have _z := MO2)); go_at_call 8; refine (pless_any _ _ la lb _ (Za.out.2) (Zb.out.2) (Nat.le_trans (Nat.mul_le_mul BA.out (Nat.add_le_add BB.out (Nat.le_refl 1))) (by decide)) (Nat.le_trans BA.out (by decide)) (Nat.le_trans BB.out (by decide)) NA.out NB.out).mono ?_; rintro e wo2 ⟨vo2, lo2, rfl, ho, hv, -, hb⟩; have MO2 := Lib.hid (show True from trivial); have HO2 := Lib.hid ho; have HQ2 : Hid (QI false (InL lo2 T)) := Lib.hid (lessQ (qa := false) (qb := false) HO2.out HQA.out HQB.out); have HD2 := Lib.hid (show lo2.length ≤ 4160 from Nat.le_trans ho.2.2 (Nat.mul_le_mul BA.out (Nat.add_le_add BB.out (Nat.le_refl 1)))); have HV2 := Lib.hid hv; have Za := Lib.hid (Za.out.call hb); have Zb := Lib.hid (Zb.out.call hb); have Zc := Lib.hid (Zc.out.call hb); have HBW := Lib.hid (thenB HBW.out hb); clear ho hv hb za1 za2 zb1 zb2; obtain ⟨⟨za1, za2⟩, -⟩ := Za.out; obtain ⟨⟨zb1, zb2⟩, -⟩ := Zb.out; try dsimp only)
                  | (have _z := MO2; (fail_if_success (have _z := MP2)); go_at_call 5; refine (phas_any _ lo2 T false _ HV2.out (Nat.le_trans HD2.out (by decide)) HQ2.out).mono ?_; rintro e wp2 ⟨rfl, hb⟩; have MP2 := Lib.hid (show True from trivial); have Za := Lib.hid (Za.out.call hb); have Zb := Lib.hid (Zb.out.call hb); have Zc := Lib.hid (Zc.out.call hb); have HBW := Lib.hid (thenB HBW.out hb); clear hb za1 za2 zb1 zb2; obtain ⟨⟨za1, za2⟩, -⟩ := Za.out; obtain ⟨⟨zb1, zb2⟩, -⟩ := Zb.out; try dsimp only)
                  | ((fail_if_success (have _z := MO3)); go_at_call 9; refine (pnot_any _ la _ (Za.out.2) (Nat.le_trans BA.out (by decide)) NA.out).mono ?_; rintro e wo3 ⟨vo3, lo3, rfl, ho, hv, -, hb⟩; have MO3 := Lib.hid (show True from trivial); have HO3 := Lib.hid ho; have HQ3 : Hid (QI false (InL lo3 T)) := Lib.hid (notQ (qa := false) (qi := false) HO3.out HQA.out HQI.out); have HD3 := Lib.hid (show lo3.length ≤ 65 from Nat.le_trans ho.2.2 (Nat.add_le_add BA.out (Nat.le_refl 1))); have HV3 := Lib.hid hv; have Za := Lib.hid (Za.out.call hb); have Zb := Lib.hid (Zb.out.call hb); have Zc := Lib.hid (Zc.out.call hb); have HBW := Lib.hid (thenB HBW.out hb); clear ho hv hb za1 za2 zb1 zb2; obtain ⟨⟨za1, za2⟩, -⟩ := Za.out; obtain ⟨⟨zb1, zb2⟩, -⟩ := Zb.out; try dsimp only)
                  | (have _z := MO3; (fail_if_success (have _z := MP3)); go_at_call 5; refine (phas_any _ lo3 T false _ HV3.out (Nat.le_trans HD3.out (by decide)) HQ3.out).mono ?_; rintro e wp3 ⟨rfl, hb⟩; have MP3 := Lib.hid (show True from trivial); have Za := Lib.hid (Za.out.call hb); have Zb := Lib.hid (Zb.out.call hb); have Zc := Lib.hid (Zc.out.call hb); have HBW := Lib.hid (thenB HBW.out hb); clear hb za1 za2 zb1 zb2; obtain ⟨⟨za1, za2⟩, -⟩ := Za.out; obtain ⟨⟨zb1, zb2⟩, -⟩ := Zb.out; try dsimp only))
              go_roundw
              case rel => exact ⟨i + 1, by go_num, by omega, HBW, Za, Zb, Zc⟩
              case measure => simp [intOf]; omega
      · have ha : ¬ InL la T := fun h => g1 (NA.out.range h).1
        have hb : ¬ InL lb T := fun h => g1 (NB.out.range h).1
        have HQA : Hid (QI false (InL la T)) := Lib.hid (by unfold QI; simpa using ha)
        have HQB : Hid (QI false (InL lb T)) := Lib.hid (by unfold QI; simpa using hb)
        have HQI : Hid (QI false (loM ≤ T ∧ T < hiM)) := Lib.hid ⟨fun h => Bool.noConfusion h, fun h => absurd h.1 g1⟩
        have CA : Hid (∀ w0, Below wR.heap.size wR w0 → Calls Try.prog 5 #[.agg #[.slice oa na ca], .int .i64 T] w0 fun e w' => e = .returned (.bool false) ∧ Below w0.heap.size w0 w') := Lib.hid fun w0 hb0 => phas_any _ la T _ w0 (Za.out.2.call hb0) (Nat.le_trans BA.out (by decide)) HQA.out
        have CB : Hid (∀ w0, Below wR.heap.size wR w0 → Calls Try.prog 5 #[.agg #[.slice ob nb cb], .int .i64 T] w0 fun e w' => e = .returned (.bool false) ∧ Below w0.heap.size w0 w') := Lib.hid fun w0 hb0 => phas_any _ lb T _ w0 (Zb.out.2.call hb0) (Nat.le_trans BB.out (by decide)) HQB.out
        clear ha hb
        obtain ⟨⟨za1, za2⟩, -⟩ := Za.out
        obtain ⟨⟨zb1, zb2⟩, -⟩ := Zb.out
        have r1 := cell_regrown za2
        have r2 := cell_regrown zb2
        go_wp2_with fail
        refine wp_region_below (by kernel_rfl) (by kernel_rfl) ?_
        repeat (go_big_quiet_step ((go_at_call 5; exact Calls.regrown_of (by first | with_reducible exact CA.out _ (below_regrown _ _ _) | with_reducible exact CB.out _ (below_regrown _ _ _)))))
        refine wpQuiet_nil ?_
        intro w1 hb1
        have Za := Lib.hid (Za.out.call hb1)
        have Zb := Lib.hid (Zb.out.call hb1)
        have Zc := Lib.hid (Zc.out.call hb1)
        have HBW := Lib.hid (thenB HBW.out hb1)
        clear hb1 r1 r2 za1 za2 zb1 zb2 CA CB hcx
        go_wp2_with fail
        go_loopw [17, 18] (fun b c wl => ∃ (s : Bool) (k : Nat), b = .bool s ∧ c = .int .i64 (k : Int) ∧ k ≤ n1 ∧ wl = w1 ∧ Hid (InsQ false s (l1.take k) T)) (fun _ c _ => n1 - (intOf c).toNat)
        case atStart => exact ⟨false, 0, rfl, rfl, by omega, (by trivial), Lib.hid (by simp [InsQ, InL])⟩
        case round =>
          obtain ⟨s, k, rfl, rfl, hk, rfl, HS1⟩ := hrel
          by_cases hkn : k < n1
          · have HT := Lib.hid (inL_take (l := l1) (k := k) (by rw [HM.out.1]; exact hkn) T)
            cases s
            · go_wp2_with fail
              go_roundw
              case rel => exact ⟨false, k + 1, rfl, by go_num, by omega, (by trivial), Lib.hid (by simp [InsQ])⟩
              case measure => simp [intOf]; omega
            · go_wp2_with fail
              go_roundw
              case rel => exact ⟨true, k + 1, rfl, by go_num, by omega, (by trivial), Lib.hid (by unfold InsQ; rw [HT.out]; exact ⟨fun h => ⟨(HS1.out.1 h).1, .inl (HS1.out.1 h).2⟩, fun _ => rfl⟩)⟩
              case measure => simp [intOf]; omega
          · obtain rfl : s = false := by
              have h1 := HS1.out
              unfold InsQ at h1
              rw [List.take_of_length_le (by rw [HM.out.1]; omega)] at h1
              have h2 := HINA.out T
              have h3 : false = true ↔ InL la T := HQA.out
              have h4 : false = true ↔ loM ≤ T ∧ T < hiM := HQI.out
              exact Bool.eq_iff_iff.2 (h1.trans (Iff.trans (sameQ h2 h4) h3.symm))
            clear HS1
            obtain ⟨⟨za1, za2⟩, -⟩ := Za.out
            obtain ⟨⟨zb1, zb2⟩, -⟩ := Zb.out
            go_wp2_with (first
                | ((fail_if_success (have _z := MO0)); go_at_call 6; refine (por_any _ _ la lb _ (Za.out.2) (Zb.out.2) (Nat.le_trans (Nat.add_le_add BA.out BB.out) (by decide)) NA.out NB.out).mono ?_; rintro e wo0 ⟨vo0, lo0, rfl, ho, hv, -, hb⟩; have MO0 := Lib.hid (show True from trivial); have HO0 := Lib.hid ho; have HQ0 : Hid (QI false (InL lo0 T)) := Lib.hid (orQ (qa := false) (qb := false) HO0.out HQA.out HQB.out); have HD0 := Lib.hid (show lo0.length ≤ 128 from Nat.le_trans ho.2.2 (Nat.add_le_add BA.out BB.out)); have HV0 := Lib.hid hv; have Za := Lib.hid (Za.out.call hb); have Zb := Lib.hid (Zb.out.call hb); have Zc := Lib.hid (Zc.out.call hb); have HBW := Lib.hid (thenB HBW.out hb); clear ho hv hb za1 za2 zb1 zb2; obtain ⟨⟨za1, za2⟩, -⟩ := Za.out; obtain ⟨⟨zb1, zb2⟩, -⟩ := Zb.out; try dsimp only)
                | (have _z := MO0; (fail_if_success (have _z := MP0)); go_at_call 5; refine (phas_any _ lo0 T false _ HV0.out (Nat.le_trans HD0.out (by decide)) HQ0.out).mono ?_; rintro e wp0 ⟨rfl, hb⟩; have MP0 := Lib.hid (show True from trivial); have Za := Lib.hid (Za.out.call hb); have Zb := Lib.hid (Zb.out.call hb); have Zc := Lib.hid (Zc.out.call hb); have HBW := Lib.hid (thenB HBW.out hb); clear hb za1 za2 zb1 zb2; obtain ⟨⟨za1, za2⟩, -⟩ := Za.out; obtain ⟨⟨zb1, zb2⟩, -⟩ := Zb.out; try dsimp only)
                | ((fail_if_success (have _z := MO1)); go_at_call 7; refine (pand_any _ _ la lb _ (Za.out.2) (Zb.out.2) (Nat.le_trans (Nat.mul_le_mul BA.out BB.out) (by decide)) (Nat.le_trans BA.out (by decide)) (Nat.le_trans BB.out (by decide)) NA.out).mono ?_; rintro e wo1 ⟨vo1, lo1, rfl, ho, hv, -, hb⟩; have MO1 := Lib.hid (show True from trivial); have HO1 := Lib.hid ho; have HQ1 : Hid (QI false (InL lo1 T)) := Lib.hid (andQ (qa := false) (qb := false) HO1.out HQA.out HQB.out); have HD1 := Lib.hid (show lo1.length ≤ 4096 from Nat.le_trans ho.2.2 (Nat.mul_le_mul BA.out BB.out)); have HV1 := Lib.hid hv; have Za := Lib.hid (Za.out.call hb); have Zb := Lib.hid (Zb.out.call hb); have Zc := Lib.hid (Zc.out.call hb); have HBW := Lib.hid (thenB HBW.out hb); clear ho hv hb za1 za2 zb1 zb2; obtain ⟨⟨za1, za2⟩, -⟩ := Za.out; obtain ⟨⟨zb1, zb2⟩, -⟩ := Zb.out; try dsimp only)
                | (have _z := MO1; (fail_if_success (have _z := MP1)); go_at_call 5; refine (phas_any _ lo1 T false _ HV1.out (Nat.le_trans HD1.out (by decide)) HQ1.out).mono ?_; rintro e wp1 ⟨rfl, hb⟩; have MP1 := Lib.hid (show True from trivial); have Za := Lib.hid (Za.out.call hb); have Zb := Lib.hid (Zb.out.call hb); have Zc := Lib.hid (Zc.out.call hb); have HBW := Lib.hid (thenB HBW.out hb); clear hb za1 za2 zb1 zb2; obtain ⟨⟨za1, za2⟩, -⟩ := Za.out; obtain ⟨⟨zb1, zb2⟩, -⟩ := Zb.out; try dsimp only)
                | ((fail_if_success (have _z := MO2)); go_at_call 8; refine (pless_any _ _ la lb _ (Za.out.2) (Zb.out.2) (Nat.le_trans (Nat.mul_le_mul BA.out (Nat.add_le_add BB.out (Nat.le_refl 1))) (by decide)) (Nat.le_trans BA.out (by decide)) (Nat.le_trans BB.out (by decide)) NA.out NB.out).mono ?_; rintro e wo2 ⟨vo2, lo2, rfl, ho, hv, -, hb⟩; have MO2 := Lib.hid (show True from trivial); have HO2 := Lib.hid ho; have HQ2 : Hid (QI false (InL lo2 T)) := Lib.hid (lessQ (qa := false) (qb := false) HO2.out HQA.out HQB.out); have HD2 := Lib.hid (show lo2.length ≤ 4160 from Nat.le_trans ho.2.2 (Nat.mul_le_mul BA.out (Nat.add_le_add BB.out (Nat.le_refl 1)))); have HV2 := Lib.hid hv; have Za := Lib.hid (Za.out.call hb); have Zb := Lib.hid (Zb.out.call hb); have Zc := Lib.hid (Zc.out.call hb); have HBW := Lib.hid (thenB HBW.out hb); clear ho hv hb za1 za2 zb1 zb2; obtain ⟨⟨za1, za2⟩, -⟩ := Za.out; obtain ⟨⟨zb1, zb2⟩, -⟩ := Zb.out; try dsimp only)
                | (have _z := MO2; (fail_if_success (have _z := MP2)); go_at_call 5; refine (phas_any _ lo2 T false _ HV2.out (Nat.le_trans HD2.out (by decide)) HQ2.out).mono ?_; rintro e wp2 ⟨rfl, hb⟩; have MP2 := Lib.hid (show True from trivial); have Za := Lib.hid (Za.out.call hb); have Zb := Lib.hid (Zb.out.call hb); have Zc := Lib.hid (Zc.out.call hb); have HBW := Lib.hid (thenB HBW.out hb); clear hb za1 za2 zb1 zb2; obtain ⟨⟨za1, za2⟩, -⟩ := Za.out; obtain ⟨⟨zb1, zb2⟩, -⟩ := Zb.out; try dsimp only)
                | ((fail_if_success (have _z := MO3)); go_at_call 9; refine (pnot_any _ la _ (Za.out.2) (Nat.le_trans BA.out (by decide)) NA.out).mono ?_; rintro e wo3 ⟨vo3, lo3, rfl, ho, hv, -, hb⟩; have MO3 := Lib.hid (show True from trivial); have HO3 := Lib.hid ho; have HQ3 : Hid (QI false (InL lo3 T)) := Lib.hid (notQ (qa := false) (qi := false) HO3.out HQA.out HQI.out); have HD3 := Lib.hid (show lo3.length ≤ 65 from Nat.le_trans ho.2.2 (Nat.add_le_add BA.out (Nat.le_refl 1))); have HV3 := Lib.hid hv; have Za := Lib.hid (Za.out.call hb); have Zb := Lib.hid (Zb.out.call hb); have Zc := Lib.hid (Zc.out.call hb); have HBW := Lib.hid (thenB HBW.out hb); clear ho hv hb za1 za2 zb1 zb2; obtain ⟨⟨za1, za2⟩, -⟩ := Za.out; obtain ⟨⟨zb1, zb2⟩, -⟩ := Zb.out; try dsimp only)
                | (have _z := MO3; (fail_if_success (have _z := MP3)); go_at_call 5; refine (phas_any _ lo3 T false _ HV3.out (Nat.le_trans HD3.out (by decide)) HQ3.out).mono ?_; rintro e wp3 ⟨rfl, hb⟩; have MP3 := Lib.hid (show True from trivial); have Za := Lib.hid (Za.out.call hb); have Zb := Lib.hid (Zb.out.call hb); have Zc := Lib.hid (Zc.out.call hb); have HBW := Lib.hid (thenB HBW.out hb); clear hb za1 za2 zb1 zb2; obtain ⟨⟨za1, za2⟩, -⟩ := Za.out; obtain ⟨⟨zb1, zb2⟩, -⟩ := Zb.out; try dsimp only))
            go_roundw
            case rel => exact ⟨i + 1, by go_num, by omega, HBW, Za, Zb, Zc⟩
            case measure => simp [intOf]; omega
    · obtain ⟨⟨za1, za2⟩, -⟩ := Za.out
      obtain ⟨⟨zb1, zb2⟩, -⟩ := Zb.out
      obtain ⟨⟨zc1, zc2⟩, -⟩ := Zc.out
      by_cases hi2 : i < mt
      · have e2 : ¬ i < 512 := by omega
        clear hgo
        go_wp2_with fail
        generalize hcode : Code.region 18 _ _ = cc
        have hce : cc = codeEQ := hcode.symm.trans (by kernel_rfl)
        clear hcode
        subst hce
        refine Code.wp_mono (fun e a'' w'' h => ?_) (algEQ _ _ _ _ _ _ la lb lc wR Za.out Zb.out Zc.out NA.out NB.out NC.out BA.out BB.out BC.out)
        cases e
        case normal =>
          obtain ⟨h8, hd, hbE⟩ := h
          have hbF := thenB HBW.out hbE
          have h8' : a''.tmps[8]?.getD undef = .bool true := by simpa using h8
          go_wp2_with fail
          exact bodyPost_ret (v := .bool true) (by simp [results, Try.results3, go_sem, h8']) hd ⟨rfl, hbF⟩
        all_goals exact h.elim
      · clear hgo
        go_wp2_with fail
        generalize hcode : Code.region 18 _ _ = cc
        have hce : cc = codeEQ := hcode.symm.trans (by kernel_rfl)
        clear hcode
        subst hce
        refine Code.wp_mono (fun e a'' w'' h => ?_) (algEQ _ _ _ _ _ _ la lb lc wR Za.out Zb.out Zc.out NA.out NB.out NC.out BA.out BB.out BC.out)
        cases e
        case normal =>
          obtain ⟨h8, hd, hbE⟩ := h
          have hbF := thenB HBW.out hbE
          have h8' : a''.tmps[8]?.getD undef = .bool true := by simpa using h8
          go_wp2_with fail
          exact bodyPost_ret (v := .bool true) (by simp [results, Try.results3, go_sem, h8']) hd ⟨rfl, hbF⟩
        all_goals exact h.elim
end Go.Proofs.Ytikhjlankomghaa
