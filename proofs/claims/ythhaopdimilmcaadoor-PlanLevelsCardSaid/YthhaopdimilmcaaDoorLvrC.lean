/- The document's enough. -/
import Derived.Test.YthhaopdimilmcaaDoorLvrB
namespace Go.Proofs.YthhaopdimilmcaaDoor
open Go.RowKit
theorem getD_snoc_lt {l : List Int} {x : Int} {k : Nat} (h : k < l.length) : (l ++ [x]).getD k 0 = l.getD k 0 := by
  unfold List.getD; rw [List.getElem?_append_left h]
/-- The times that the document asks at. -/
def tms (f : Nat → Int) (x : Int) (l : List Nat) : Nat → List Int
  | 0 => [x]
  | k + 1 => tms f x l k ++ [f (l.getD k 0)]
theorem tms_len (f : Nat → Int) (x : Int) (l : List Nat) : ∀ k, (tms f x l k).length = k + 1 := by
  intro k
  induction k with
  | zero => rfl
  | succ k ih => unfold tms; rw [List.length_append, ih]; rfl
theorem mem_tms {f : Nat → Int} {x : Int} {l : List Nat} {u : Int} : u ∈ tms f x l l.length ↔ (u = x ∨ ∃ j, j ∈ l ∧ u = f j) := by
  have h : ∀ k, k ≤ l.length → (u ∈ tms f x l k ↔ (u = x ∨ ∃ j, j < k ∧ u = f (l.getD j 0))) := by
    intro k
    induction k with
    | zero => intro _; simp [tms]
    | succ k ih =>
      intro hk
      unfold tms
      rw [List.mem_append, ih (by omega), List.mem_singleton]
      constructor
      · rintro ((h1 | ⟨j, h1, h2⟩) | h1)
        · exact .inl h1
        · exact .inr ⟨j, by omega, h2⟩
        · exact .inr ⟨k, by omega, h1⟩
      · rintro (h1 | ⟨j, h1, h2⟩)
        · exact .inl (.inl h1)
        · by_cases e : j = k
          · subst e; exact .inr h2
          · exact .inl (.inr ⟨j, by omega, h2⟩)
  rw [h _ (Nat.le_refl _)]
  constructor
  · rintro (h1 | ⟨j, h1, h2⟩)
    · exact .inl h1
    · refine .inr ⟨l.getD j 0, ?_, h2⟩
      have : l.getD j 0 = l[j] := by simp [List.getD, h1]
      rw [this]; exact List.getElem_mem h1
  · rintro (h1 | ⟨j, h1, h2⟩)
    · exact .inl h1
    · obtain ⟨k, hk, e⟩ := List.getElem_of_mem h1
      exact .inr ⟨k, hk, by rw [h2]; simp [List.getD, hk, e]⟩
set_option maxRecDepth 100000 in
set_option maxHeartbeats 16000000 in
theorem refEnough_any (oa : Option Addr) (n cap : Nat) (AL AU : Nat → Option Addr) (CL CU : Nat → Nat) (T : Plan) (oh : Option Addr) (hn hc : Nat) (hv : Nat → Int) (B c2 : Nat) (ob : Option Addr) (m c3 b i : Nat) (x : Int) (f t : Nat → Int) (z : Nat → Bool) (l : List Nat) (w : World) (hnn : T.n = n) (hT : T.Ok) (hh6 : hn ≤ 1000000) (hi : i < n) (hx : 0 ≤ x ∧ x ≤ 4000000000) (hlm : l.length = m) (hd : DoneL T l z) (ht : ∀ j, j ∈ l → t j = f j + T.len j)
    (hR : PlanR w oa AL AU CL CU T) (hH : IntsR w oh hn hv) (hO : OwnS w B n f t) (hI : IntsL w b (.slice ob m c3) l) :
    Calls Tryd.prog 51 #[.slice oa n cap, .slice oh hn hc, .slice (some ⟨B, 0, none⟩) n c2, .slice ob m c3, .int .i64 (i : Int), .int .i64 x] w fun e w' => ∃ q : Bool, e = .returned (.bool q) ∧ (q = true ↔ FitP T f t z n hn hv i x) ∧ Below w.heap.size w w' := by
  obtain ⟨aa, rfl⟩ := hR.1 (by omega)
  have hn6 : n ≤ 60 := by rw [← hnn]; exact hT.size
  have hm6 : m ≤ 60 := by
    have h1 := hd.len
    have h2 := cntB_le z T.n
    omega
  have HFI := Lib.hid (show (∀ r, r < hn → EnoR T f t z hv i x l r) ↔ FitP T f t z n hn hv i x from by
    rw [← hnn]
    exact ⟨fun h r hr => (enoR_iff hT (by omega) hd).1 (h r hr), fun h r hr => (enoR_iff hT (by omega) hd).2 (h r hr)⟩)
  have HSM := Lib.hid (show ∀ r u, sumT (useAt T f t r u) l m = lay T f t z r u 0 T.n from fun r u => by rw [← hlm]; exact hd.sum f t r u)
  have HR := Lib.hid hR
  have HH := Lib.hid hH
  have HO := Lib.hid hO
  have HI := Lib.hid hI
  have HNN := Lib.hid hnn
  have HOK := Lib.hid hT
  have HLM := Lib.hid hlm
  have HLL := Lib.hid (show ∀ j, j ∈ l → j < n from fun j hj => by rw [← hnn]; exact hd.lt j hj)
  have HT := Lib.hid ht
  have hLn := (hT.task i (by rw [hnn]; exact hi)).head.1
  obtain ⟨L, hL⟩ : ∃ y, T.len i = y := ⟨_, rfl⟩
  rw [hL] at hLn
  have HL := Lib.hid hL
  have i1 : (0 : Int) ≤ (i : Int) := by omega
  have i2 : (i : Int) < (n : Int) := by omega
  clear hR hH hO hI hnn hT hlm hd ht hL
  obtain ⟨i0, hi0, hz0, hz1, hz2⟩ := info_parts int_info
  obtain ⟨Y, hY⟩ : ∃ y, x + L = y := ⟨_, rfl⟩
  have HY := Lib.hid hY
  clear hY
  go_enter Tryd.func51, Tryd.ntmps51
  go_wp2_with fail
  go_loopw [13] (fun c wr => ∃ r : Nat, c = .int .i64 (r : Int) ∧ r ≤ hn ∧ Hid (∀ r', r' < r → EnoR T f t z hv i x l r') ∧ Hid (Below w.heap.size w wr)) (fun c _ => hn - (intOf c).toNat)
  case atStart => exact ⟨0, rfl, by omega, Lib.hid fun r hr => absurd hr (Nat.not_lt_zero r), Lib.hid (Below.refl _ _)⟩
  case round =>
    obtain ⟨r, rfl, hr, HF, HW⟩ := hrel
    obtain ⟨wA, rfl⟩ : ∃ wo : World, wo = wr := ⟨_, rfl⟩
    by_cases hrn : r < hn
    · have HRA := Lib.hid (HR.out.call HW.out)
      obtain ⟨Nb, al, lc, cl, au, uc, cu, t0, t1, t2, t3, huse⟩ := refUse_at HRA.out (show i < T.n by rw [HNN.out]; exact hi)
      have hab := World.block_lt_of_cell? _ _ t0
      have HUSE := Lib.hid (huse r)
      have hub := use_bd HOK.out i r
      have HW0 := Lib.hid HW.out
      obtain ⟨U, hUE⟩ : ∃ y, usd T i r = y := ⟨_, rfl⟩
      have hU2 : U = if L = 0 then 0 else T.use i r := by rw [← hUE, ← HL.out]; rfl
      have hub2 : 0 ≤ U ∧ U ≤ 1000000 := by rw [hU2]; split <;> omega
      have HU2 := Lib.hid hU2
      rw [HL.out] at t0
      rw [hUE, HL.out] at HUSE
      have r1 : (0 : Int) ≤ (r : Int) := by omega
      have r2 : (r : Int) < (hn : Int) := by omega
      have hus := HUSE.out wA (Below.refl _ _)
      clear huse hub hUE hU2
      go_wp2_with fail
      refine hus.mono ?_
      clear hus
      rintro e w1 ⟨rfl, hb1⟩
      have HW1 := Lib.hid (thenB HW.out hb1)
      have HA1 := Lib.hid hb1
      clear hb1
      by_cases hU0 : U = 0
      · have d1 : (U == 0) = true := by simpa using hU0
        have HU0 := Lib.hid hU0
        clear hU0
        go_wp2_with fail
        go_roundw
        case rel =>
          refine ⟨r + 1, by go_num, by omega, Lib.hid fun r' hr' => ?_, HW1⟩
          by_cases e : r' = r
          · subst e
            intro h1 h2
            have := HU2.out
            rw [if_neg (by rw [← HL.out]; exact h2), HU0.out] at this
            exact absurd this.symm h1
          · exact HF.out r' (by omega)
        case measure => simp [intOf]; omega
      · have d1 : (U == 0) = false := by simpa using hU0
        have HLn0 := Lib.hid (show L ≠ 0 from fun h => hU0 (by rw [HU2.out, if_pos h]))
        have HUU := Lib.hid (show T.use i r = U from by rw [HU2.out, if_neg HLn0.out])
        clear hU0
        have HA0 := Lib.hid (AtSt.start w w1 HW1.out x)
        go_wp2_with fail
        go_loopw [14, 36] (fun v c wr => ∃ (og : Option Addr) (cg k : Nat), v = .slice og (k + 1) cg ∧ c = .int .i64 (k : Int) ∧ k ≤ m ∧ Hid (AtSt w w1.heap.size (.slice og (k + 1) cg) (tms f x l k) wr) ∧ Hid (Below w1.heap.size w1 wr)) (fun _ c _ => m - (intOf c).toNat)
        case atStart => exact ⟨_, 1, 0, rfl, rfl, by omega, HA0, Lib.hid (Below.alloc (Below.refl _ _) (Nat.le_refl _) _)⟩
        case round =>
          clear HA0
          obtain ⟨og, cg, k, rfl, rfl, hk, HAT, HWB⟩ := hrel
          obtain ⟨wB, rfl⟩ : ∃ wo : World, wo = wr := ⟨_, rfl⟩
          by_cases hkm : k < m
          · have HB0 := Lib.hid (thenB HW1.out HWB.out)
            have HIA := Lib.hid (HI.out.call HB0.out)
            have hkl : k < l.length := by rw [HLM.out]; exact hkm
            obtain ⟨g, rfl, hcc⟩ := HIA.out.at hkl
            have hmem : l.getD k 0 ∈ l := by
              have : l.getD k 0 = l[k] := by simp [List.getD, hkl]
              rw [this]; exact List.getElem_mem hkl
            have hjn := HLL.out _ hmem
            have hst : tms f x l (k + 1) = tms f x l k ++ [f (l.getD k 0)] := rfl
            obtain ⟨j, hj⟩ : ∃ j, l.getD k 0 = j := ⟨_, rfl⟩
            rw [hj] at hcc hjn hst
            obtain ⟨⟨s0, -⟩, -, -⟩ := (HO.out.call HB0.out).2 j hjn
            have hBl := (HO.out.call HB0.out).1
            have hgl := World.block_lt_of_cell? _ _ hcc
            have k1 : (0 : Int) ≤ (k : Int) := by omega
            have k2 : (k : Int) < (m : Int) := by omega
            have j1 : (0 : Int) ≤ (j : Int) := by omega
            have j2 : (j : Int) < (n : Int) := by omega
            obtain ⟨F, hF⟩ : ∃ y, f j = y := ⟨_, rfl⟩
            rw [hF] at s0 hst
            have HST := Lib.hid hst
            have HLN := Lib.hid (tms_len f x l k)
            clear hmem hkl hj hst hF
            go_wp2_with (at_builtin; refine wpList_append_own _ rfl (.tmp 40) (.tmp 46) 23 rfl w1.heap.size 3 i0 (.int .i64 0) 1 8 Tryd.underlying23 hi0 hz0 hz1 hz2 rfl (by decide) _ (k + 1) (itV (tms f x l k)) rfl (by have h9 := HAT.out.2.2.1; rw [HLN.out] at h9; exact h9.alloc _) _ 1 1 [.int .i64 F] rfl rfl (cells_here _ _ _) (by simp [Value.oneCell']) (by unfold maxLen; omega) (by omega) (by have := HAT.out.1; simp at this ⊢; omega) ?_; intro v3 w3 hown hgrow _)
            obtain ⟨g3, c4, hv3, _, _⟩ := hown.form (by omega)
            subst hv3
            have hS3 : AtSt w w1.heap.size (.slice (some ⟨g3, 0, none⟩) (k + 1 + 1) c4) (tms f x l k ++ [F]) w3 := HAT.out.grow hgrow (by rw [HLN.out]; exact hown)
            have hlt8 := HAT.out.2.2.1.lt
            have HWB3 := Lib.hid (show Below w1.heap.size w1 w3 from (HWB.out.alloc HWB.out.size _).grown hgrow (by have := HWB.out.size; simp at *; omega) (fun k hk => (hlt8 k hk).1))
            have HS3 := Lib.hid hS3
            clear hS3 hown hgrow hlt8
            go_wp2_with fail
            go_roundw
            case rel => exact ⟨_, c4, k + 1, rfl, by go_num, by omega, Lib.hid (by rw [HST.out]; exact HS3.out), HWB3⟩
            case measure => simp [intOf]; omega
          · obtain rfl : m = k := by omega
            obtain ⟨lt, hlt⟩ : ∃ y, tms f x l m = y := ⟨_, rfl⟩
            have hal := HAT.out
            rw [hlt] at hal
            have hln : lt.length = m + 1 := by rw [← hlt]; exact tms_len f x l m
            have HMEM := Lib.hid (show ∀ u, u ∈ lt ↔ (u = x ∨ ∃ j, j ∈ l ∧ u = f j) from fun u => by rw [← hlt, ← HLM.out]; exact mem_tms)
            obtain ⟨g, cg2, hg1, hg2, hg3⟩ := own_ints (l := lt) (v := .slice og (m + 1) cg) (w := wB) (by omega) (by have h9 := hal.2.2.1; exact h9)
            rw [hln] at hg1 hg3
            simp only [Value.slice.injEq, true_and] at hg1
            obtain ⟨rfl, rfl⟩ := hg1
            have HG := Lib.hid hg3
            have HLN := Lib.hid hln
            have HW2 := Lib.hid hal.2.2.2
            clear hlt hal hln hg3 HAT HWB
            go_wp2_with fail
            go_loopw [51] (fun c wr => ∃ q : Nat, c = .int .i64 (q : Int) ∧ q ≤ m + 1 ∧ Hid (∀ q', q' < q → x ≤ lt.getD q' 0 → lt.getD q' 0 < x + L → lay T f t z r (lt.getD q' 0) 0 T.n + U ≤ hv r) ∧ Hid (Below w.heap.size w wr) ∧ Hid (OwnI wr g (m + 1) fun j => lt.getD j 0)) (fun c _ => m + 1 - (intOf c).toNat)
            case atStart => exact ⟨0, rfl, by omega, Lib.hid fun q hq => absurd hq (Nat.not_lt_zero q), HW2, HG⟩
            case round =>
              clear HG HW2
              obtain ⟨q, rfl, hq, HQ, HW3, HG⟩ := hrel
              obtain ⟨wC, rfl⟩ : ∃ wo : World, wo = wr := ⟨_, rfl⟩
              by_cases hqm : q < m + 1
              · have cg0 : wC.cell? ⟨g, q, none⟩ = some (.int .i64 (lt.getD q 0)) := (HG.out.2 q hqm).1
                have hgb := HG.out.1
                have hstp : ∀ (u : Int), lt.getD q 0 = u → (x ≤ u → u < x + L → lay T f t z r u 0 T.n + U ≤ hv r) → ∀ q', q' < q + 1 → x ≤ lt.getD q' 0 → lt.getD q' 0 < x + L → lay T f t z r (lt.getD q' 0) 0 T.n + U ≤ hv r := fun u hu h q' hq' => by
                  by_cases e : q' = q
                  · subst e; rw [hu]; exact h
                  · exact HQ.out q' (by omega)
                obtain ⟨u, hu⟩ : ∃ y, lt.getD q 0 = y := ⟨_, rfl⟩
                rw [hu] at cg0
                have HUQ := Lib.hid hu
                have HSTP := Lib.hid (hstp u hu)
                have q1 : (0 : Int) ≤ (q : Int) := by omega
                have q2 : (q : Int) < (((m + 1 : Nat)) : Int) := by omega
                clear hu hstp
                have HRC := Lib.hid (HR.out.call HW3.out)
                obtain ⟨c0, -, -, -⟩ := HRC.out.at (show i < T.n by rw [HNN.out]; exact hi)
                rw [HL.out] at c0
                have hab := World.block_lt_of_cell? _ _ c0
                by_cases hx1 : u < x
                · have d2 : decide (u < x) = true := decide_eq_true hx1
                  have HNX := Lib.hid (HSTP.out fun h => absurd hx1 (by omega))
                  clear hx1
                  go_wp2_with fail
                  go_roundw
                  case rel => exact ⟨q + 1, by go_num, by omega, HNX, HW3, HG⟩
                  case measure => simp [intOf]; omega
                · have d2 : decide (u < x) = false := decide_eq_false hx1
                  by_cases hx2 : x + L ≤ u
                  · have d3 : decide (x + L ≤ u) = true := decide_eq_true hx2
                    have HNX := Lib.hid (HSTP.out fun _ h => absurd h (by omega))
                    clear hx1 hx2
                    go_wp2_with fail
                    go_roundw
                    case rel => exact ⟨q + 1, by go_num, by omega, HNX, HW3, HG⟩
                    case measure => simp [intOf]; omega
                  · have d3 : decide (x + L ≤ u) = false := decide_eq_false hx2
                    have HXX := Lib.hid (And.intro hx1 hx2)
                    obtain ⟨_, t1', t2', t3'⟩ := HRC.out.at (show i < T.n by rw [HNN.out]; exact hi)
                    obtain ⟨Nb2, al2, lc2, cl2, au2, uc2, cu2, e0, e1, e2, e3, huse2⟩ := refUse_at HRC.out (show i < T.n by rw [HNN.out]; exact hi)
                    have hus2 := huse2 r
                    rw [HL.out] at e0 hus2
                    rw [show usd T i r = U from by unfold usd; rw [if_neg (by rw [HL.out]; exact HLn0.out)]; exact HUU.out] at hus2
                    have HUS2 := Lib.hid hus2
                    have hN := sumT_bd (fun j => useAt_bd HOK.out f t r u j) l m
                    have HUD := Lib.hid (fun w' (hb : Below w.heap.size w w') => refUsed_any (some aa) n cap AL AU CL CU T B c2 ob m c3 b r u f t l w' HNN.out HOK.out (by omega) HLM.out HLL.out HT.out (HR.out.call hb) (HO.out.call hb) (HI.out.call hb))
                    rw [HSM.out r u] at hN HUD
                    obtain ⟨N1, hN1⟩ : ∃ y, lay T f t z r u 0 T.n = y := ⟨_, rfl⟩
                    rw [hN1] at hN HUD
                    have HN1 := Lib.hid hN1
                    have HHC := HH.out.call HW3.out
                    obtain ⟨bh, rfl⟩ := HHC.1 (by omega)
                    have chh := HHC.at hrn
                    obtain ⟨V, hV⟩ : ∃ y, hv r = y := ⟨_, rfl⟩
                    rw [hV] at chh
                    have HV := Lib.hid hV
                    have x1 := cell_regrown e0
                    have x2 := cell_regrown e1
                    have x3 := cell_regrown e2
                    have x4 := cell_regrown e3
                    have x5 := cell_regrown chh
                    have HZ0 := Lib.hid HW3.out.size
                    have hbw : Below w.heap.size w wC := HW3.out
                    have HBW := Lib.hid hbw
                    clear hx1 hx2 t1' t2' t3' huse2 hus2 hN1 HHC hV hbw e1 e2 e3 t1 t2 t3 t0
                    by_cases hgt : V < N1 + U
                    · have d4 : decide (V < N1 + U) = true := decide_eq_true hgt
                      have HGT := Lib.hid hgt
                      have hsum : IntKind.i64.wrap (N1 + U) = N1 + U := IntWalk.i64_in _ (by omega)
                      clear hgt
                      go_wp2_with fail
                      refine wp_region_below (by kernel_rfl) (by kernel_rfl) ?_
                      repeat (go_big_quiet_step (first | (go_at_call 61; exact Calls.regrown_of (HUD.out _ (HBW.out.trans ((below_regrown _ _ _).mono HZ0.out)))) | (go_at_call 60; exact Calls.regrown_of (HUS2.out _ (below_regrown _ _ _)))))
                      refine wpQuiet_nil ?_
                      intro w5 hb5
                      have HW5 := Lib.hid (thenB HW3.out hb5)
                      clear hb5 x1 x2 x3 x4 x5 hsum
                      go_wp2_with fail
                      go_ret
                      refine ⟨false, rfl, ⟨fun h => Bool.noConfusion h, fun h => ?_⟩, HW5.out⟩
                      have h1 := HFI.out.2 h r hrn (by rw [HUU.out]; intro h0; exact absurd d1 (by simp [h0])) (by rw [HL.out]; exact HLn0.out) u (by
                        refine (HMEM.out u).1 ?_
                        rw [← HUQ.out, List.getD_eq_getElem?_getD, List.getElem?_eq_getElem (by rw [HLN.out]; exact hqm)]
                        exact List.getElem_mem _) (by have := HXX.out.1; omega) (by rw [HL.out]; have := HXX.out.2; omega)
                      rw [HUU.out, HN1.out, HV.out] at h1
                      have := HGT.out
                      omega
                    · have d4 : decide (V < N1 + U) = false := decide_eq_false hgt
                      have HGT := Lib.hid hgt
                      have hsum : IntKind.i64.wrap (N1 + U) = N1 + U := IntWalk.i64_in _ (by omega)
                      clear hgt
                      go_wp2_with fail
                      refine wp_region_below (by kernel_rfl) (by kernel_rfl) ?_
                      repeat (go_big_quiet_step (first | (go_at_call 61; exact Calls.regrown_of (HUD.out _ (HBW.out.trans ((below_regrown _ _ _).mono HZ0.out)))) | (go_at_call 60; exact Calls.regrown_of (HUS2.out _ (below_regrown _ _ _)))))
                      refine wpQuiet_nil ?_
                      intro w5 hb5
                      have HW5 := Lib.hid (thenB HW3.out hb5)
                      have HG5 := Lib.hid (HG.out.call hb5)
                      have HNX := Lib.hid (HSTP.out fun _ _ => by rw [HN1.out, HV.out]; have := HGT.out; omega)
                      clear hb5 x1 x2 x3 x4 x5 hsum
                      go_wp2_with fail
                      go_roundw
                      case rel => exact ⟨q + 1, by go_num, by omega, HNX, HW5, HG5⟩
                      case measure => simp [intOf]; omega
              · obtain rfl : q = m + 1 := by omega
                go_wp2_with fail
                go_roundw
                case rel =>
                  refine ⟨r + 1, by go_num, by omega, Lib.hid fun r' hr' => ?_, HW3⟩
                  by_cases e : r' = r
                  · subst e
                    intro _ _ u hu h1 h2
                    obtain ⟨k, hk, rfl⟩ := List.getElem_of_mem ((HMEM.out u).2 hu)
                    have h3 := HQ.out k (by rw [← HLN.out]; exact hk)
                    rw [List.getD_eq_getElem?_getD, List.getElem?_eq_getElem hk] at h3
                    rw [HUU.out]
                    exact h3 h1 (by rw [← HL.out]; exact h2)
                  · exact HF.out r' (by omega)
                case measure => simp [intOf]; omega
    · obtain rfl : hn = r := by omega
      go_wp2_with fail
      go_ret
      exact ⟨true, rfl, ⟨fun _ => HFI.out.1 HF.out, fun _ => rfl⟩, HW.out⟩
end Go.Proofs.YthhaopdimilmcaaDoor
