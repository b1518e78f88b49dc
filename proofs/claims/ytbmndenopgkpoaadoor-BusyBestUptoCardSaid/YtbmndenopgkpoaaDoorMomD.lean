/- The program's Of. -/
import Derived.Test.YtbmndenopgkpoaaDoorMomC
import Derived.Deep.DeepCutAuto
import Derived.Deep.AppendLies
namespace Go.Proofs.YtbmndenopgkpoaaDoor
open Go.RowKit
def ivN (v : Value) : Nat := match v with | .slice _ m _ => m | _ => 0
theorem clipL_take {l : List Iv} {k : Nat} {p : Iv} (h : l[k]? = some p) : clipL (l.take (k + 1)) = clipL (l.take k) ++ if clipM p.1 < clipM p.2 then [(clipM p.1, clipM p.2)] else [] := by
  rw [List.take_add_one, h, clipL_append]
  rfl
theorem iv_get {l : List Iv} {k : Nat} (h : k < l.length) : l[k]? = some (l.getD k iv0) := by simp [List.getD, h]
theorem cells_ivs {w : World} {z : Nat} (hz : w.heap.size = z) (vs : List Value) (e : TypeId) : ∀ j u, vs[j]? = some u → (w.alloc (.cells vs.toArray e)).cell? ((⟨z, 0, none⟩ : Addr).add j) = some u := by
  subst hz; exact cells_here w vs e
theorem ivOwn_far {w : World} {b : Nat} {e : TypeId} {z : Nat} {v : Value} {n : Nat} {xs : List Value} (h : w.ownsRow b e z v n xs) {p : Addr} (hp : ∀ k, v.ownBlock = some k → k ≠ p.block) (u : Value) : (w.setCell p u).ownsRow b e z v n xs :=
  h.kept (row := some p.block) ⟨rfl, rfl, rfl, by simp [World.setCell], fun k hk hne => Below.heap_setCell w p u k (fun e => hne (by rw [e]))⟩ (by
    cases hv : v.ownBlock with
    | none => exact .inl rfl
    | some k => exact .inr fun e => hp k hv (Option.some.inj e))
theorem ivV_set (o : List Iv) (q : Iv) (z : Int) : (ivV (o ++ [q])).set (o.length * 2 + 1) (.int .i64 z) = ivV (o ++ [(q.1, z)]) := by
  rw [ivV_append, ivV_append, List.set_append_right _ _ (by rw [ivV_len]; omega), ivV_len]
  rw [show o.length * 2 + 1 - o.length * 2 = 1 by omega]
  rfl
theorem ivOwn_set {w : World} {b g p c : Nat} {o : List Iv} {q : Iv} (hp : o.length = p) (h : w.ownsRow b 55 2 (.slice (some ⟨g, 0, none⟩) (p + 1) c) (p + 1) (ivV (o ++ [q]))) (z : Int) :
    (w.setCell ⟨g, p * 2 + 1, none⟩ (.int .i64 z)).ownsRow b 55 2 (.slice (some ⟨g, 0, none⟩) (p + 1) c) (p + 1) (ivV (o ++ [(q.1, z)])) := by
  have h2 := (h.stored (p * 2 + 1) (.int .i64 z)).1
  rw [← hp] at h2 ⊢
  rw [ivV_set] at h2
  exact h2
theorem ivOwn_last {w : World} {b g p c : Nat} {o : List Iv} {q : Iv} (hp : o.length = p) (h : w.ownsRow b 55 2 (.slice (some ⟨g, 0, none⟩) (p + 1) c) (p + 1) (ivV (o ++ [q]))) :
    w.cell? ⟨g, p * 2 + 1, none⟩ = some (.int .i64 q.2) ∧ w.frozen? ⟨g, p * 2 + 1, none⟩ = false ∧ b ≤ g ∧ g < w.heap.size := by
  have e := (ivV_at (o ++ [q]) p (by simp; omega)).2
  have e2 : (o ++ [q]).getD p iv0 = q := by rw [← hp]; simp [List.getD]
  rw [e2] at e
  exact ⟨(h.cellAt _ (by omega)).trans e, h.frozenAt _, h.lt g rfl⟩
/-- No block below a bound is a slice's. -/
def NewV (b : Nat) (v : Value) : Prop := ∀ a n c, v = .slice (some a) n c → b ≤ a.block
/-- What Of answers. -/
def OfR (l : List Iv) (w : World) (e : Ending) (w' : World) : Prop := ∃ v o, e = .returned (.agg #[v]) ∧ OfM l o ∧ IvS w' v o ∧ NewV w.heap.size v ∧ Below w.heap.size w w'
set_option maxRecDepth 100000 in
set_option maxHeartbeats 16000000 in
theorem of_any (ob : Option Addr) (l : List Iv) (n cap : Nat) (w : World) (hln : l.length = n) (hn : n ≤ 1000000000) (hR : IvR w ob l) :
    Calls Tryd.prog 15 #[.slice ob n cap] w (OfR l w) := by
  have HR := Lib.hid hR
  have HLN := Lib.hid hln
  clear hR hln
  obtain ⟨i0, hi0, hz0, hz1, hz2⟩ := info_parts span_info2
  go_enter Tryd.func15, Tryd.ntmps15
  go_wp2_with fail
  have HB0 := Lib.hid (Below.alloc (Below.refl w.heap.size w) (Nat.le_refl _) (.cells #[.slice none 0 0] 31))
  obtain ⟨w0, hw0⟩ : ∃ x, w.alloc (.cells #[.slice none 0 0] 31) = x := ⟨_, rfl⟩
  have HC0 := Lib.hid (show w0.cell? ⟨w.heap.size, 0, none⟩ = some (.slice none 0 0) ∧ w0.frozen? ⟨w.heap.size, 0, none⟩ = false ∧ w0.heap.size = w.heap.size + 1 by rw [← hw0]; simp)
  rw [hw0] at HB0 ⊢
  clear hw0
  go_loopw [3, 12] (fun v c wr => ∃ (og : Option Addr) (m cg k : Nat), v = .slice og m cg ∧ c = .int .i64 (k : Int) ∧ k ≤ n ∧ m ≤ k ∧ Hid ((clipL (l.take k)).length = m) ∧ Hid (wr.ownsRow w0.heap.size 55 2 (.slice og m cg) m (ivV (clipL (l.take k)))) ∧ Hid (Below w0.heap.size w0 wr)) (fun _ c _ => n - (intOf c).toNat)
  case atStart => exact ⟨none, 0, 0, 0, rfl, rfl, by omega, by omega, Lib.hid (by simp [clipL]), Lib.hid (World.ownsRow_nil _ _ _ _), Lib.hid (Below.refl _ _)⟩
  case round =>
    obtain ⟨og, m, cg, k, rfl, rfl, hk, hm, HM, HO, HW⟩ := hrel
    obtain ⟨wA, rfl⟩ : ∃ wo : World, wo = wr := ⟨_, rfl⟩
    by_cases hkn : k < n
    · have hkl : k < l.length := by rw [HLN.out]; exact hkn
      have HRA := Lib.hid (HR.out.call (thenB HB0.out HW.out))
      obtain ⟨a, rfl⟩ := HRA.out.1 (by omega)
      obtain ⟨c0, c1⟩ := HRA.out.at hkl
      have hst := clipL_take (iv_get hkl)
      obtain ⟨X, hX⟩ : ∃ x, (l.getD k iv0).1 = x := ⟨_, rfl⟩
      obtain ⟨Y, hY⟩ : ∃ x, (l.getD k iv0).2 = x := ⟨_, rfl⟩
      rw [hX] at c0
      rw [hY] at c1
      rw [hX, hY] at hst
      have HST := Lib.hid hst
      have hab := World.block_lt_of_cell? _ _ c0
      have k1 : (0 : Int) ≤ (k : Int) := by omega
      have k2 : (k : Int) < (n : Int) := by omega
      have HW1 := Lib.hid (HW.out.alloc HW.out.size (.cells #[.int .i64 X, .int .i64 Y] 55))
      clear hkl hX hY hst
      have hcl := fun n w' => clip_any n w'
      obtain ⟨CX, hcx⟩ : ∃ x, clipM X = x := ⟨_, rfl⟩
      obtain ⟨CY, hcy⟩ : ∃ x, clipM Y = x := ⟨_, rfl⟩
      have hclx := hcl X
      have hcly := hcl Y
      rw [hcx] at hclx
      rw [hcy] at hcly
      rw [hcx, hcy] at HST
      have HCX := Lib.hid hclx
      have HCY := Lib.hid hcly
      clear hcl hclx hcly hcx hcy
      go_upto_region 5 with fail
      go_cut [] (fun wx => wx = (wA.alloc (.cells #[.int .i64 CX, .int .i64 CY] 55)).drew)
      case first =>
        go_region_with (first | (go_at_call_of 27 (Value.int .i64 X); refine (HCX.out _).mono ?_; rintro e w' ⟨rfl, hw'⟩; subst hw') | (go_at_call_of 27 (Value.int .i64 Y); refine (HCY.out _).mono ?_; rintro e w' ⟨rfl, hw'⟩; subst hw'))
        all_goals (go_wp2_with fail; go_meet; exact rfl)
      case rest =>
        subst hcut
        by_cases hlt : CX < CY
        · have d1 : decide (CX < CY) = true := decide_eq_true hlt
          have HST2 := Lib.hid (show clipL (l.take (k + 1)) = clipL (l.take k) ++ [(CX, CY)] by rw [HST.out, if_pos hlt])
          have HW2 := Lib.hid (below_drew (HW.out.alloc HW.out.size (.cells #[.int .i64 CX, .int .i64 CY] 55)))
          clear hlt
          have HO2 := Lib.hid (ivOwn_call HO.out (below_drew (Below.alloc (Below.refl _ _) (Nat.le_refl _) (.cells #[.int .i64 CX, .int .i64 CY] 55))))
          go_wp2_with (at_builtin; refine wpList_append_own _ rfl (.tmp 29) (.tmp 31) 29 rfl w0.heap.size 55 i0 (.agg #[.int .i64 0, .int .i64 0]) 2 16 Tryd.underlying29 hi0 hz0 hz1 hz2 rfl (by decide) _ m (ivV (clipL (l.take k))) rfl (HO2.out.alloc _) _ 1 1 [.int .i64 CX, .int .i64 CY] rfl rfl (cells_ivs (by simp) _ _) (by simp [Value.oneCell']) (by unfold maxLen; omega) (by omega) (by have := HW2.out.size; simp at *; omega) ?_; intro v3 w3 hown hgrow _)
          obtain ⟨g3, c3, hv3, _, _⟩ := hown.form (by omega)
          subst hv3
          have hlt8 := HO2.out.lt
          have HW3 := Lib.hid ((HW2.out.alloc HW2.out.size (.cells #[.int .i64 CX, .int .i64 CY] 55)).grown hgrow (by have := HW2.out.size; simp at *; omega) (fun k hk => (hlt8 k hk).1))
          have HO3 := Lib.hid (show w3.ownsRow w0.heap.size 55 2 (.slice (some ⟨g3, 0, none⟩) (m + 1) c3) (m + 1) (ivV (clipL (l.take (k + 1)))) from by rw [HST2.out, ivV_append]; exact hown)
          clear hown hgrow hlt8
          go_wp2_with fail
          go_roundw
          case rel => exact ⟨_, m + 1, c3, k + 1, rfl, by go_num, by omega, by omega, Lib.hid (by rw [HST2.out, List.length_append, HM.out]; rfl), HO3, HW3⟩
          case measure => simp [intOf]; omega
        · have d1 : decide (CX < CY) = false := decide_eq_false hlt
          have HST2 := Lib.hid (show clipL (l.take (k + 1)) = clipL (l.take k) by rw [HST.out, if_neg hlt, List.append_nil])
          have HW2 := Lib.hid (below_drew (HW.out.alloc HW.out.size (.cells #[.int .i64 CX, .int .i64 CY] 55)))
          clear hlt
          go_wp2_with fail
          go_roundw
          case rel => exact ⟨og, m, cg, k + 1, rfl, by go_num, by omega, by omega, Lib.hid (by rw [HST2.out]; exact HM.out), Lib.hid (by rw [HST2.out]; exact ivOwn_call HO.out (below_drew (Below.alloc (Below.refl _ _) (Nat.le_refl _) _))), HW2⟩
          case measure => simp [intOf]; omega
    · obtain rfl : n = k := by omega
      have htk : l.take n = l := List.take_of_length_le (by rw [HLN.out]; exact Nat.le_refl _)
      have hcon := sortOwn_any (clipL l) w0.heap.size m cg og wA (by have := HM.out; rw [htk] at this; exact this) (by omega) (by have := HO.out; rw [htk] at this; exact this)
      have HML := Lib.hid (show (clipL l).length = m by have := HM.out; rw [htk] at this; exact this)
      clear htk HO HM
      go_wp2_with fail
      refine hcon.mono ?_
      clear hcon
      rintro e w2 ⟨rfl, ⟨S, hS, hSR⟩, hb2⟩
      have HS := Lib.hid hS
      have HSR := Lib.hid hSR
      have hsl : S.length = m := by rw [hS.len, HML.out]
      have HSL := Lib.hid hsl
      have HB2 := Lib.hid (HW.out.trans hb2)
      clear hS hSR hsl hb2 HW
      go_wp2_with fail
      go_loopw [6, 38] (fun v c wr => ∃ (oh : Option Addr) (p ch k : Nat) (out : List Iv), v = .slice oh p ch ∧ c = .int .i64 (k : Int) ∧ k ≤ m ∧ p ≤ k ∧ Hid (out.length = p ∧ MrgI S k out) ∧ Hid (wr.ownsRow w2.heap.size 55 2 (.slice oh p ch) p (ivV out)) ∧ Hid (Below w2.heap.size w2 wr)) (fun _ c _ => m - (intOf c).toNat)
      case atStart => exact ⟨none, 0, 0, 0, [], rfl, rfl, by omega, by omega, Lib.hid ⟨rfl, MrgI.start S⟩, Lib.hid (World.ownsRow_nil _ _ _ _), Lib.hid (Below.refl _ _)⟩
      case round =>
        obtain ⟨oh, p, ch, k, out, rfl, rfl, hk, hp, HI, HO, HW⟩ := hrel
        obtain ⟨wB, rfl⟩ : ∃ wo : World, wo = wr := ⟨_, rfl⟩
        by_cases hkm : k < m
        · have hkl : k < S.length := by rw [HSL.out]; exact hkm
          have HRB := Lib.hid (HSR.out.call HW.out)
          obtain ⟨a, rfl⟩ := HRB.out.1 (by omega)
          obtain ⟨c0, c1⟩ := HRB.out.at hkl
          have hmem : S.getD k iv0 ∈ clipL l := by
            rw [← HS.out.mem]
            have e : S.getD k iv0 = S[k] := by simp [List.getD, hkl]
            rw [e]; exact List.getElem_mem hkl
          have hst := HI.out.2.step (fun p hp => clipL_ok l p ((HS.out.mem p).1 hp)) HS.out.pw (iv_get hkl)
          obtain ⟨s, hs⟩ : ∃ x, S.getD k iv0 = x := ⟨_, rfl⟩
          rw [hs] at c0 c1 hst
          obtain ⟨X, Y⟩ := s
          have HST := Lib.hid hst
          have hab := World.block_lt_of_cell? _ _ c0
          have k1 : (0 : Int) ≤ (k : Int) := by omega
          have k2 : (k : Int) < (m : Int) := by omega
          have HWA := Lib.hid (HW.out.alloc HW.out.size (.cells #[.int .i64 X, .int .i64 Y] 55))
          have HOA := Lib.hid (ivOwn_call HO.out (Below.alloc (Below.refl _ _) (Nat.le_refl _) (.cells #[.int .i64 X, .int .i64 Y] 55)))
          clear hkl hmem hst hs
          by_cases hp0 : p = 0
          · subst hp0
            obtain rfl : out = [] := List.length_eq_zero_iff.1 HI.out.1
            have d0 : decide ((0 : Int) < ((0 : Nat) : Int)) = false := rfl
            have hnl : ([] : List Iv).length = 0 := rfl
            clear HI
            go_wp2_with fail
            go_quiet (fail)
            have HOB := Lib.hid (fun (q : Nat) => ivOwn_call HOA.out (below_drewN (Below.refl (wB.alloc (.cells #[.int .i64 X, .int .i64 Y] 55)).heap.size (wB.alloc (.cells #[.int .i64 X, .int .i64 Y] 55))) q))
            go_wp2_with (at_builtin; refine wpList_append_own _ rfl (.tmp 71) (.tmp 73) 29 rfl w2.heap.size 55 i0 (.agg #[.int .i64 0, .int .i64 0]) 2 16 Tryd.underlying29 hi0 hz0 hz1 hz2 rfl (by decide) _ (0) (ivV []) rfl ((HOB.out _).alloc _) _ 1 1 [.int .i64 X, .int .i64 Y] rfl rfl (cells_ivs (by simp) _ _) (by simp [Value.oneCell']) (by unfold maxLen; omega) (by omega) (by have := HWA.out.size; simp at *; omega) ?_; intro v3 w3 hown hgrow _)
            obtain ⟨g3, c3, hv3, _, _⟩ := hown.form (by omega)
            subst hv3
            have hlt8 := HOA.out.lt
            have HW3 := Lib.hid (((below_drewN HWA.out _).alloc (by have := HWA.out.size; simp at *; omega) (.cells #[.int .i64 X, .int .i64 Y] 55)).grown hgrow (by have := HWA.out.size; simp at *; omega) (fun k hk => (hlt8 k hk).1))
            have HO3 := Lib.hid (show w3.ownsRow w2.heap.size 55 2 (.slice (some ⟨g3, 0, none⟩) (0 + 1) c3) (0 + 1) (ivV (([]) ++ [(X, Y)])) from by rw [ivV_append]; exact hown)
            clear hown hgrow hlt8
            go_wp2_with fail
            go_roundw
            case rel => exact ⟨_, 0 + 1, c3, k + 1, ([]) ++ [(X, Y)], rfl, by go_num, by omega, by omega, Lib.hid ⟨by rw [List.length_append]; simp only [List.length_singleton]; omega, by have := HST.out; rw [addM_nil] at this; exact this⟩, HO3, HW3⟩
            case measure => simp [intOf]; omega
          · obtain ⟨p', rfl⟩ : ∃ p', p = p' + 1 := ⟨p - 1, by omega⟩
            obtain ⟨o, q, hoq⟩ : ∃ o q, out = o ++ [q] := by
              rcases List.eq_nil_or_concat out with h | ⟨o, q, h⟩
              · have := HI.out.1; rw [h] at this; simp at this
              · exact ⟨o, q, by rw [h]; simp⟩
            subst hoq
            have hol : o.length = p' := by have := HI.out.1; rw [List.length_append] at this; simp only [List.length_singleton] at this; omega
            have HOL := Lib.hid hol
            obtain ⟨g, ch', hv, _, _⟩ := HO.out.form (by omega)
            simp only [Value.slice.injEq, true_and] at hv
            obtain ⟨rfl, rfl⟩ := hv
            obtain ⟨Q1, Q2⟩ := q
            obtain ⟨l1, l2, l3, l4⟩ := ivOwn_last HOL.out HOA.out
            have hst := HST.out
            rw [addM_snoc] at hst
            have HST2 := Lib.hid hst
            have p1 : (0 : Int) ≤ (p' : Int) := by omega
            have p2 : (p' : Int) < ((p' + 1 : Nat) : Int) := by omega
            have d0 : decide ((0 : Int) < ((p' + 1 : Nat) : Int)) = true := decide_eq_true (by omega)
            clear hst hol HST HI
            by_cases hle : X ≤ Q2
            · have d1 : decide (X ≤ Q2) = true := decide_eq_true hle
              have HST := Lib.hid (show MrgI S (k + 1) (o ++ [(Q1, max Q2 Y)]) by have := HST2.out; rw [if_pos hle] at this; exact this)
              have HWA2 := Lib.hid (show ∀ z q, Below w2.heap.size w2 (((wB.alloc (.cells #[.int .i64 X, .int .i64 Y] 55)).drewN q).setCell ⟨g, p' * 2 + 1, none⟩ (.int .i64 z)) from fun z q => (below_drewN HWA.out q).setCell (p := ⟨g, p' * 2 + 1, none⟩) l3 _)
              have HOA2 := Lib.hid (show ∀ z q, (((wB.alloc (.cells #[.int .i64 X, .int .i64 Y] 55)).drewN q).setCell ⟨g, p' * 2 + 1, none⟩ (.int .i64 z)).ownsRow w2.heap.size 55 2 (.slice (some ⟨g, 0, none⟩) (p' + 1) ch) (p' + 1) (ivV (o ++ [(Q1, z)])) from fun z q => ivOwn_set HOL.out (ivOwn_call HOA.out (below_drewN (Below.refl _ _) q)) z)
              clear hle HST2
              go_wp2_with fail
              go_quiet (fail)
              go_wp2_with fail
              go_region
              all_goals
                go_wp2_with fail
                go_roundw
                case rel => exact ⟨_, p' + 1, ch, k + 1, o ++ [(Q1, max Q2 Y)], rfl, by go_num, by omega, by omega, Lib.hid ⟨by rw [List.length_append, HOL.out]; rfl, HST.out⟩, Lib.hid (HOA2.out _ _), Lib.hid (HWA2.out _ _)⟩
                case measure => simp [intOf]; omega
            · have d1 : decide (X ≤ Q2) = false := decide_eq_false hle
              have HST := Lib.hid (show MrgI S (k + 1) (o ++ [(Q1, Q2)] ++ [(X, Y)]) by have := HST2.out; rw [if_neg hle] at this; exact this)
              have hnl : (o ++ [(Q1, Q2)]).length = p' + 1 := by rw [List.length_append, HOL.out]; rfl
              clear hle
              go_wp2_with fail
              go_quiet (fail)
              have HOB := Lib.hid (fun (q : Nat) => ivOwn_call HOA.out (below_drewN (Below.refl (wB.alloc (.cells #[.int .i64 X, .int .i64 Y] 55)).heap.size (wB.alloc (.cells #[.int .i64 X, .int .i64 Y] 55))) q))
              go_wp2_with (at_builtin; refine wpList_append_own _ rfl (.tmp 71) (.tmp 73) 29 rfl w2.heap.size 55 i0 (.agg #[.int .i64 0, .int .i64 0]) 2 16 Tryd.underlying29 hi0 hz0 hz1 hz2 rfl (by decide) _ (p' + 1) (ivV (o ++ [(Q1, Q2)])) rfl ((HOB.out _).alloc _) _ 1 1 [.int .i64 X, .int .i64 Y] rfl rfl (cells_ivs (by simp) _ _) (by simp [Value.oneCell']) (by unfold maxLen; omega) (by omega) (by have := HWA.out.size; simp at *; omega) ?_; intro v3 w3 hown hgrow _)
              obtain ⟨g3, c3, hv3, _, _⟩ := hown.form (by omega)
              subst hv3
              have hlt8 := HOA.out.lt
              have HW3 := Lib.hid (((below_drewN HWA.out _).alloc (by have := HWA.out.size; simp at *; omega) (.cells #[.int .i64 X, .int .i64 Y] 55)).grown hgrow (by have := HWA.out.size; simp at *; omega) (fun k hk => (hlt8 k hk).1))
              have HO3 := Lib.hid (show w3.ownsRow w2.heap.size 55 2 (.slice (some ⟨g3, 0, none⟩) (p' + 1 + 1) c3) (p' + 1 + 1) (ivV ((o ++ [(Q1, Q2)]) ++ [(X, Y)])) from by rw [ivV_append]; exact hown)
              clear hown hgrow hlt8
              go_wp2_with fail
              go_roundw
              case rel => exact ⟨_, p' + 1 + 1, c3, k + 1, (o ++ [(Q1, Q2)]) ++ [(X, Y)], rfl, by go_num, by omega, by omega, Lib.hid ⟨by rw [List.length_append]; simp only [List.length_singleton]; omega, HST.out⟩, HO3, HW3⟩
              case measure => simp [intOf]; omega
        · obtain rfl : m = k := by omega
          have hof : OfM l out := OfM.of HS.out.mem (by rw [HSL.out, ← HML.out]; exact clipL_len l) (by have := HI.out.2; rw [HSL.out]; exact this)
          have HOF := Lib.hid hof
          have hc1 : wB.cell? ⟨w.heap.size, 0, none⟩ = some (.slice none 0 0) ∧ wB.frozen? ⟨w.heap.size, 0, none⟩ = false ∧ w.heap.size < wB.heap.size := by
            have h1 : Below w0.heap.size w0 wB := HB2.out.trans (HW.out.mono HB2.out.size)
            have h2 : w.heap.size < w0.heap.size := by rw [HC0.out.2.2]; omega
            exact ⟨(h1.cell (p := ⟨w.heap.size, 0, none⟩) h2).trans HC0.out.1, (h1.frozen (p := ⟨w.heap.size, 0, none⟩) h2).trans HC0.out.2.1, Nat.lt_of_lt_of_le h2 h1.size⟩
          obtain ⟨q1, q2, q3⟩ := hc1
          clear hof
          go_wp2_with fail
          have z0 : (wB.setCell ⟨w.heap.size, 0, none⟩ (.slice oh p ch)).cell? ⟨w.heap.size, 0, none⟩ = some (.slice oh p ch) := World.cell?_setCell_same _ _ _ q1
          refine bodyPost_ret (v := .agg #[.slice oh p ch]) (by simp [results, Tryd.results15, go_sem, z0]) rfl ⟨_, out, rfl, HOF.out, ?_, ?hvb, ?_⟩
          · have h1 := HO.out.lt
            have h2 := HB2.out.size
            have h3 := HC0.out.2.2
            refine IvS.own (b := w2.heap.size) ?_
            rw [HI.out.1]
            refine ivOwn_far HO.out (fun k hk e => ?_) _
            have := (h1 k hk).1
            have e2 : k = w.heap.size := e
            omega
          case hvb =>
            intro a nn cc hv
            have h1 := HO.out.lt
            have h2 := HB2.out.size
            have h3 := HC0.out.2.2
            injection hv with hv1 hv2 hv3
            rcases HO.out.2 with ⟨h4, _⟩ | ⟨g, c5, cur, h4, h5, _⟩
            · injection h4 with h6; rw [h6] at hv1; cases hv1
            · injection h4 with h6; rw [h6] at hv1; injection hv1 with hv1; rw [← hv1]; show w.heap.size ≤ g; omega
          · have h3 := HC0.out.2.2
            exact ((HB0.out.trans (HB2.out.mono (by omega))).trans (HW.out.mono (by have := HB2.out.size; omega))).setCell (p := ⟨w.heap.size, 0, none⟩) (Nat.le_refl _) _
end Go.Proofs.YtbmndenopgkpoaaDoor
