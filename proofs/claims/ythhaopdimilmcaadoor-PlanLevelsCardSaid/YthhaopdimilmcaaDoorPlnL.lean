/- The law PlanLeast. -/
import Derived.Test.YthhaopdimilmcaaDoorPlnK
namespace Go.Proofs.YthhaopdimilmcaaDoor
open Go.RowKit
namespace Plan
def later (T : Plan) (f : Nat → Int) : Plan := { T with nb := f }
theorem later_ok {T : Plan} (hT : T.Ok) {f : Nat → Int} (hf : ∀ i, i < T.n → 0 ≤ f i ∧ f i ≤ 1000000) : (T.later f).Ok :=
  ⟨hT.size, fun i hi => ⟨⟨(hT.task i hi).head.1, hf i hi, (hT.task i hi).head.2.2⟩, (hT.task i hi).link, (hT.task i hi).use⟩, hT.full⟩
theorem later_feas {T : Plan} {f s : Nat → Int} (hf : ∀ i, i < T.n → T.nb i ≤ f i) (h : Feas (T.later f) s) : Feas T s := fun i hi => ⟨Int.le_trans (hf i hi) (h i hi).1, (h i hi).2⟩
theorem later_last (T : Plan) (f s : Nat → Int) : ∀ m, last (T.later f) s m = last T s m := by
  intro m
  induction m with
  | zero => rfl
  | succ m ih => unfold last; rw [ih]; rfl
theorem ufeas_of {T : Plan} {s : Nat → Int} (h : Feas T s) : UFeas T (last T s T.n) s :=
  ⟨fun j hj => by have := ((last_le (T := T) (s := s) T.n).1 (Int.le_refl _)).2 j hj; omega, fun i hi k hk => (h i hi).2 k hk⟩
end Plan
/-- When tasks may begin, if some wait longer. -/
def delayF (T : Plan) (dn : Nat) (u : Nat → Int) (i : Nat) : Int := if i < dn then min 1000000 (T.nb i + u i % 500) else T.nb i
theorem delay_bd {T : Plan} (hT : T.Ok) (dn : Nat) (u : Nat → Int) : ∀ i, i < T.n → (0 ≤ delayF T dn u i ∧ delayF T dn u i ≤ 1000000) ∧ T.nb i ≤ delayF T dn u i := by
  intro i hi
  obtain ⟨_, ⟨h1, h2⟩, _⟩ := (hT.task i hi).head
  have h3 := Int.emod_nonneg (u i) (show (500 : Int) ≠ 0 by decide)
  unfold delayF
  split <;> omega
/-- Tasks as cells. -/
def tkV (T : Plan) (AL AU : Nat → Option Addr) (CL CU : Nat → Nat) (f : Nat → Int) : Nat → List Value
  | 0 => []
  | k + 1 => tkV T AL AU CL CU f k ++ [.int .i64 (T.len k), .int .i64 (f k), .slice (AL k) (T.lc k) (CL k), .slice (AU k) (T.uc k) (CU k)]
theorem tkV_len (T : Plan) (AL AU : Nat → Option Addr) (CL CU : Nat → Nat) (f : Nat → Int) : ∀ k, (tkV T AL AU CL CU f k).length = k * 4 := by
  intro k
  induction k with
  | zero => rfl
  | succ k ih => unfold tkV; rw [List.length_append, ih]; simp; omega
theorem tkV_at (T : Plan) (AL AU : Nat → Option Addr) (CL CU : Nat → Nat) (f : Nat → Int) : ∀ k i, i < k → (tkV T AL AU CL CU f k)[i * 4]? = some (.int .i64 (T.len i)) ∧ (tkV T AL AU CL CU f k)[i * 4 + 1]? = some (.int .i64 (f i)) ∧ (tkV T AL AU CL CU f k)[i * 4 + 2]? = some (.slice (AL i) (T.lc i) (CL i)) ∧ (tkV T AL AU CL CU f k)[i * 4 + 3]? = some (.slice (AU i) (T.uc i) (CU i)) := by
  intro k
  induction k with
  | zero => intro i hi; exact absurd hi (Nat.not_lt_zero i)
  | succ k ih =>
    intro i hi
    have hl := tkV_len T AL AU CL CU f k
    unfold tkV
    by_cases e : i = k
    · subst e
      refine ⟨?_, ?_, ?_, ?_⟩
      · rw [List.getElem?_append_right (by omega), hl, Nat.sub_self]; rfl
      · rw [List.getElem?_append_right (by omega), hl, show i * 4 + 1 - i * 4 = 1 by omega]; rfl
      · rw [List.getElem?_append_right (by omega), hl, show i * 4 + 2 - i * 4 = 2 by omega]; rfl
      · rw [List.getElem?_append_right (by omega), hl, show i * 4 + 3 - i * 4 = 3 by omega]; rfl
    · obtain ⟨h1, h2, h3, h4⟩ := ih i (by omega)
      exact ⟨by rw [List.getElem?_append_left (by omega)]; exact h1, by rw [List.getElem?_append_left (by omega)]; exact h2, by rw [List.getElem?_append_left (by omega)]; exact h3, by rw [List.getElem?_append_left (by omega)]; exact h4⟩
theorem PlanR.made {w : World} {b : Nat} {oa : Option Addr} {AL AU : Nat → Option Addr} {CL CU : Nat → Nat} {T : Plan} {f : Nat → Int} {v : Value} (hR : PlanR w oa AL AU CL CU T) (h : w.ownsRow b 34 4 v T.n (tkV T AL AU CL CU f T.n)) :
    ∃ ob c, v = .slice ob T.n c ∧ PlanR w ob AL AU CL CU (T.later f) := by
  have hlt := h.lt
  have hcells := fun (g : Nat) (hg : v.ownBlock = some g) => h.cells hg
  rcases h.2 with ⟨rfl, h0⟩ | ⟨g, cap, cur, rfl, hb, hh, hc1, hc2, _⟩
  · exact ⟨none, 0, by rw [h0], fun h1 => absurd h1 (by show ¬ 0 < T.n; omega), (fun a e => by cases e), hR.2.2⟩
  · refine ⟨some ⟨g, 0, none⟩, cap, rfl, fun _ => ⟨_, rfl⟩, fun a e => ?_, hR.2.2⟩
    injection e with e
    subst e
    refine ⟨fun _ => (hlt g rfl).2, fun i hi => ?_⟩
    obtain ⟨h1, h2, h3, h4⟩ := tkV_at T AL AU CL CU f T.n i hi
    exact ⟨hcells g rfl _ _ h1, hcells g rfl _ _ h2, hcells g rfl _ _ h3, hcells g rfl _ _ h4⟩
theorem task_info : (Tryd.prog.info? 34).map (fun i => (i.zero, i.size, i.bytes)) = some (some (.agg #[.int .i64 0, .int .i64 0, .slice none 0 0, .slice none 0 0]), 4, 64) := by kernel_rfl
theorem EarlyV.ok {T : Plan} {b : Nat} {v : Value} {x : Int} {w : World} (h : EarlyV T b v x w) (hc : T.chk = 0) : x = 0 ∧ ∃ B s, v = .slice (some ⟨B, 0, none⟩) T.n T.n ∧ b ≤ B ∧ OwnS w B T.n s (fun i => s i + T.len i) ∧ Plan.Fix T s ∧ ∀ i, i < T.n → 0 ≤ s i ∧ s i ≤ 121000000 := by
  rcases h with ⟨h, _⟩ | ⟨_, h⟩
  · exact absurd hc h
  · exact h
theorem EndV.ok {T : Plan} {b : Nat} {v : Value} {x : Int} {w : World} (h : EndV T b v x w) (hc : T.chk = 0) {s : Nat → Int} (hs : Plan.Fix T s) : x = 0 ∧ v = .int .i64 (Plan.last T s T.n) := by
  rcases h with ⟨h, _⟩ | ⟨_, h1, s2, h2, h3, _⟩
  · exact absurd hc h
  · exact ⟨h1, by rw [h2, Plan.last_congr T.n (Plan.Fix.unique (Plan.chk_ok hc).full h3 hs)]⟩
theorem LateV.ok {y : Int} {T : Plan} {b : Nat} {v : Value} {x : Int} {w : World} (h : LateV y T b v x w) (hc : T.chk = 0) {s : Nat → Int} (hs : Plan.Fix T s) (h1 : Plan.last T s T.n ≤ y) (h2 : y ≤ 1099511627776) : x = 0 ∧ ∃ B q, v = .slice (some ⟨B, 0, none⟩) T.n T.n ∧ b ≤ B ∧ OwnS w B T.n q (fun i => q i + T.len i) ∧ Plan.Latest T y q ∧ ∀ i, i < T.n → y - 122000000 ≤ q i ∧ q i ≤ y := by
  rcases h with ⟨h, _⟩ | ⟨_, s2, h3, h | h | ⟨_, _, h5, h6⟩⟩
  · exact absurd hc h
  · have e := Plan.last_congr (T := T) T.n (Plan.Fix.unique (Plan.chk_ok hc).full h3 hs)
    have := h.1
    omega
  · have := h.2.1
    omega
  · exact ⟨h5, h6⟩
theorem EarlyV.err {T : Plan} {b : Nat} {v : Value} {x : Int} {w : World} (h : EarlyV T b v x w) (hc : T.chk ≠ 0) : v = .slice none 0 0 ∧ x = T.chk := by
  rcases h with ⟨_, h⟩ | ⟨h, _⟩
  · exact h
  · exact absurd h hc
theorem own_call {w w' : World} {b : Nat} {e : TypeId} {z : Nat} {v : Value} {n : Nat} {xs : List Value} (h : w.ownsRow b e z v n xs) (hb : Below w.heap.size w w') : w'.ownsRow b e z v n xs :=
  h.kept (row := none) ⟨hb.os, hb.tape, hb.output, hb.size, fun k hk _ => hb.block k hk⟩ (by cases hv : v.ownBlock <;> simp)
theorem own_far {w : World} {b : Nat} {e : TypeId} {z : Nat} {v : Value} {n : Nat} {xs : List Value} (h : w.ownsRow b e z v n xs) {p : Addr} (hp : ∀ k, v.ownBlock = some k → k ≠ p.block) (u : Value) : (w.setCell p u).ownsRow b e z v n xs :=
  h.kept (row := some p.block) ⟨rfl, rfl, rfl, by simp [World.setCell], fun k hk hne => Below.heap_setCell w p u k (fun e => hne (by rw [e]))⟩ (by
    cases hv : v.ownBlock with
    | none => exact .inl rfl
    | some k => exact .inr fun e => hp k hv (Option.some.inj e))
theorem pick500_Q (n : Int) (w : World) : Calls Tryd.prog 12 #[.int .i64 n, .int .i64 500] w fun e w' => e = .returned (.int .i64 (n % 500)) ∧ Below w.heap.size w w' := by
  refine (pick500 n w).mono ?_
  rintro e w' ⟨rfl, rfl⟩
  exact ⟨rfl, Below.refl _ _⟩
set_option maxRecDepth 100000 in
set_option maxHeartbeats 8000000 in
theorem planLeast_walk (oa : Option Addr) (cap : Nat) (AL AU : Nat → Option Addr) (CL CU : Nat → Nat) (T : Plan) (n : Nat) (od : Option Addr) (dn dcap : Nat) (u : Nat → Int) (w : World) (hT : ErrT w) (hnn : T.n = n) (hn : n ≤ 9223372036854775807) (hlc : ∀ i, i < n → T.lc i ≤ 9223372036854775807 ∧ T.uc i ≤ 9223372036854775807) (hR : PlanR w oa AL AU CL CU T) (hd : dn ≤ 9223372036854775807) (hU : IntsR w od dn u) :
    Calls Tryd.prog 3 #[.slice oa n cap, .slice od dn dcap] w fun e w' => e = .returned (.bool true) ∧ Below w.heap.size w w' := by
  have HT := Lib.hid hT
  have HR := Lib.hid hR
  have HU := Lib.hid hU
  have HLC := Lib.hid hlc
  have HNN := Lib.hid hnn
  clear hT hR hU hlc hnn
  by_cases hbig : 200 < n
  · have hb : decide ((200 : Int) < (n : Int)) = true := decide_eq_true (by omega)
    go_enter Tryd.func3, Tryd.ntmps3
    go_wp2_with fail
    go_ret
    exact ⟨rfl, Below.refl _ _⟩
  have hb : decide ((200 : Int) < (n : Int)) = false := decide_eq_false (by omega)
  go_enter Tryd.func3, Tryd.ntmps3
  go_wp2_with fail
  refine (plainEarly_any oa cap AL AU CL CU T n w HNN.out HT.out hn HLC.out HR.out).mono ?_
  rintro e w1 ⟨v1, x1, rfl, hV, hb1⟩
  have HV := Lib.hid hV
  have HT1 := Lib.hid (HT.out.call hb1)
  have HB1 := Lib.hid hb1
  clear hV hb1
  go_wp2_with fail
  refine (plainCheck_any oa cap AL AU CL CU T n w1 HNN.out HT1.out hn HLC.out (HR.out.call HB1.out)).mono ?_
  rintro e w2 ⟨rfl, hb2⟩
  have HV2 := Lib.hid (HV.out.call hb2)
  have HT2 := Lib.hid (HT1.out.call hb2)
  have HB2 := Lib.hid (thenB HB1.out hb2)
  clear hb2 HV
  by_cases hc : T.chk = 0
  · obtain ⟨rfl, B, s, rfl, hB, hO, hF, hbd⟩ := HV2.out.ok hc
    rw [HNN.out] at hO hbd
    have HO := Lib.hid hO
    have HF := Lib.hid hF
    have HD := Lib.hid hbd
    have HC := Lib.hid hc
    have HOK := Lib.hid (Plan.chk_ok hc)
    have hn6 : n ≤ 60 := by rw [← HNN.out]; exact HOK.out.size
    rw [hc, HNN.out]
    clear hB hO hF hbd hc HV2
    go_wp2_with fail
    refine (plainEnd_any oa cap AL AU CL CU T n w2 HNN.out HT2.out hn HLC.out (HR.out.call HB2.out)).mono ?_
    rintro e w3 ⟨v3, x3, rfl, hV3, hb3⟩
    obtain ⟨rfl, rfl⟩ := hV3.ok HC.out HF.out
    have HO3 := Lib.hid (HO.out.call hb3)
    have HT3 := Lib.hid (HT2.out.call hb3)
    have HB3 := Lib.hid (thenB HB2.out hb3)
    have hEb := last_bd HOK.out (by rw [HNN.out]; exact HD.out) T.n (Nat.le_refl _)
    obtain ⟨E, hE⟩ : ∃ x, Plan.last T s T.n = x := ⟨_, rfl⟩
    rw [hE] at hEb ⊢
    have HE := Lib.hid hE
    clear hb3 hV3 HO hE
    go_wp2_with (go_at_call 11; refine (fits_yes oa cap AL AU CL CU T n B n s w3 HNN.out HOK.out HF.out.feas (fun i hi => by have := HD.out i hi; omega) (HR.out.call HB3.out) HO3.out).mono ?_; rintro e w4 ⟨rfl, hb4⟩; have HO4 := Lib.hid (HO3.out.call hb4); have HT4 := Lib.hid (HT3.out.call hb4); have HB4 := Lib.hid (thenB HB3.out hb4); clear hb4)
    obtain ⟨i0, hi0, hz0, hz1, hz2⟩ := info_parts task_info
    go_loopw [10, 11] (fun v c wr => ∃ (ob : Option Addr) (k cap2 : Nat), v = .slice ob k cap2 ∧ c = .int .i64 (k : Int) ∧ k ≤ n ∧ Hid (wr.ownsRow w4.heap.size 34 4 (.slice ob k cap2) k (tkV T AL AU CL CU (delayF T dn u) k)) ∧ Hid (Below w4.heap.size w4 wr)) (fun _ c _ => n - (intOf c).toNat)
    case atStart => exact ⟨none, 0, 0, rfl, rfl, by omega, Lib.hid (World.ownsRow_nil _ _ _ _), Lib.hid (Below.refl _ _)⟩
    case round =>
      obtain ⟨ob, k, cap2, rfl, rfl, hk, HOW, HLB⟩ := hrel
      obtain ⟨wA, rfl⟩ : ∃ wo : World, wo = wr := ⟨_, rfl⟩
      by_cases hkn : k < n
      · have HIN := Lib.hid (show k < T.n by rw [HNN.out]; exact hkn)
        have HBA := Lib.hid (thenB HB4.out HLB.out)
        obtain ⟨a, rfl⟩ := HR.out.1 (by rw [HNN.out]; omega)
        obtain ⟨c0, c1, c2, c3⟩ := (HR.out.call HBA.out).at HIN.out
        have hnb := (HOK.out.task k HIN.out).head.2.1
        obtain ⟨L, hL⟩ : ∃ x, T.len k = x := ⟨_, rfl⟩
        obtain ⟨Nb, hNb⟩ : ∃ x, T.nb k = x := ⟨_, rfl⟩
        obtain ⟨lc, hlcE⟩ : ∃ x, T.lc k = x := ⟨_, rfl⟩
        obtain ⟨uc, hucE⟩ : ∃ x, T.uc k = x := ⟨_, rfl⟩
        obtain ⟨al, hal⟩ : ∃ x, AL k = x := ⟨_, rfl⟩
        obtain ⟨au, hau⟩ : ∃ x, AU k = x := ⟨_, rfl⟩
        obtain ⟨cl, hcl⟩ : ∃ x, CL k = x := ⟨_, rfl⟩
        obtain ⟨cu, hcu⟩ : ∃ x, CU k = x := ⟨_, rfl⟩
        rw [hL] at c0
        rw [hNb] at c1 hnb
        rw [hal, hlcE, hcl] at c2
        rw [hau, hucE, hcu] at c3
        have HE6 := Lib.hid (And.intro hL (And.intro hal (And.intro hlcE (And.intro hcl (And.intro hau (And.intro hucE hcu))))))
        have HTB := Lib.hid (TaskB.new wA L Nb al lc cl au uc cu 34)
        have HOA := Lib.hid (HOW.out.alloc (.cells #[.int .i64 L, .int .i64 Nb, .slice al lc cl, .slice au uc cu] 34))
        have HLA := Lib.hid (HLB.out.alloc HLB.out.size (.cells #[.int .i64 L, .int .i64 Nb, .slice al lc cl, .slice au uc cu] 34))
        have HLT := Lib.hid HOW.out.lt
        have hf4 : (wA.alloc (.cells #[.int .i64 L, .int .i64 Nb, .slice al lc cl, .slice au uc cu] 34)).frozen? ⟨wA.heap.size, 1, none⟩ = false := by simp
        have HF4 := Lib.hid hf4
        have hAz := HLB.out.size
        clear hL hlcE hucE hal hau hcl hcu hf4
        by_cases hkd : k < dn
        · have hkb : (k : Int) < (dn : Int) := by omega
          obtain ⟨bd, rfl⟩ := HU.out.1 (by omega)
          have hu := ((HU.out.call HBA.out).call (Below.alloc (Below.refl _ _) (Nat.le_refl _) (.cells #[.int .i64 L, .int .i64 Nb, .slice al lc cl, .slice au uc cu] 34))).at hkd
          obtain ⟨U, hUU⟩ : ∃ x, u k = x := ⟨_, rfl⟩
          rw [hUU] at hu
          have r1 := cell_regrown hu
          have r2 := cell_regrown HTB.out.2.2.1
          have m0 := Int.emod_nonneg U (show (500 : Int) ≠ 0 by decide)
          have m1 := Int.emod_lt_of_pos U (show (0 : Int) < 500 by decide)
          obtain ⟨V5, hV5⟩ : ∃ x, U % 500 = x := ⟨_, rfl⟩
          have hpick := fun (w' : World) => pick500_Q U w'
          simp only [hV5] at hpick
          rw [hV5] at m0 m1
          have HPK := Lib.hid hpick
          obtain ⟨NBX, hNBX⟩ : ∃ x, (if Nb + V5 < 1000000 then Nb + V5 else 1000000) = x := ⟨_, rfl⟩
          have HNB := Lib.hid (show delayF T dn u k = NBX by unfold delayF; rw [if_pos hkd, hNb, hUU, hV5, ← hNBX]; split <;> omega)
          clear hu hUU hV5 hNb hpick
          go_wp2_with fail
          refine wp_region_below_tail 10 (by kernel_rfl) (by kernel_rfl) ?_
          simp only [List.take_succ_cons, List.take_zero, List.drop_succ_cons, List.drop_zero]
          repeat (go_big_quiet_step ((go_at_call 12; exact Calls.regrown_of (HPK.out _))))
          refine wpQuiet_nil ?_
          intro w5 hb5
          obtain ⟨t0, t1, t2, t3, t4⟩ := HTB.out.call hb5
          have f1 := (hb5.frozen (p := ⟨wA.heap.size, 1, none⟩) (by simp)).trans HF4.out
          have HOWX := Lib.hid (own_far (own_call HOA.out hb5) (p := ⟨wA.heap.size, 1, none⟩) (fun k hk => Nat.ne_of_lt (HLT.out k hk).2) (.int .i64 NBX))
          have HLX := Lib.hid ((HLA.out.trans (hb5.mono HLA.out.size)).setCell (p := ⟨wA.heap.size, 1, none⟩) hAz (.int .i64 NBX))
          have hz5 := hb5.size
          clear hb5 r1 r2
          try rw [hNBX]
          go_wp2_with (at_builtin; refine wpList_append_own _ rfl (.tmp 76) (.tmp 78) 22 rfl w4.heap.size 34 i0 (.agg #[.int .i64 0, .int .i64 0, .slice none 0 0, .slice none 0 0]) 4 64 Tryd.underlying22 hi0 hz0 hz1 hz2 rfl (by decide) _ k (tkV T AL AU CL CU (delayF T dn u) k) rfl (HOWX.out.alloc _) _ 1 1 [.int .i64 L, .int .i64 NBX, .slice al lc cl, .slice au uc cu] rfl rfl (cells_at (by simp [World.setCell]) _ _) (by simp [Value.oneCell']) (by unfold maxLen; omega) (by omega) (by have := HLX.out.size; simp [World.setCell] at *; omega) ?_; intro v8 w8 hown hgrow _)
          obtain ⟨g8, c8, hv8, _, _⟩ := hown.form (by omega)
          subst hv8
          have hlt8 := HOWX.out.lt
          have HB8 := Lib.hid ((HLX.out.alloc HLX.out.size (.cells #[.int .i64 L, .int .i64 NBX, .slice al lc cl, .slice au uc cu] 34)).grown hgrow (by have := HLX.out.size; simp [World.setCell] at *; omega) (fun k hk => (hlt8 k hk).1))
          have HW8 := Lib.hid (show w8.ownsRow w4.heap.size 34 4 (.slice (some ⟨g8, 0, none⟩) (k + 1) c8) (k + 1) (tkV T AL AU CL CU (delayF T dn u) (k + 1)) by
            unfold tkV
            rw [HNB.out, HE6.out.1, HE6.out.2.1, HE6.out.2.2.1, HE6.out.2.2.2.1, HE6.out.2.2.2.2.1, HE6.out.2.2.2.2.2.1, HE6.out.2.2.2.2.2.2]
            exact hown)
          clear hown hgrow hlt8
          go_roundw
          case rel => exact ⟨_, k + 1, c8, rfl, by go_num, by omega, HW8, HB8⟩
          case measure => simp [intOf]; omega
        · have hkb : ¬ (k : Int) < (dn : Int) := by omega
          have HNB := Lib.hid (show delayF T dn u k = Nb by unfold delayF; rw [if_neg hkd, hNb])
          obtain ⟨t0, t1, t2, t3, t4⟩ := HTB.out
          have HOWX := HOA
          have HLX := HLA
          obtain ⟨NBX, hNBX⟩ : ∃ x, Nb = x := ⟨_, rfl⟩
          subst hNBX
          clear hNb
          go_wp2_with (at_builtin; refine wpList_append_own _ rfl (.tmp 76) (.tmp 78) 22 rfl w4.heap.size 34 i0 (.agg #[.int .i64 0, .int .i64 0, .slice none 0 0, .slice none 0 0]) 4 64 Tryd.underlying22 hi0 hz0 hz1 hz2 rfl (by decide) _ k (tkV T AL AU CL CU (delayF T dn u) k) rfl (HOWX.out.alloc _) _ 1 1 [.int .i64 L, .int .i64 Nb, .slice al lc cl, .slice au uc cu] rfl rfl (cells_at (by simp) _ _) (by simp [Value.oneCell']) (by unfold maxLen; omega) (by omega) (by have := HLX.out.size; simp at *; omega) ?_; intro v8 w8 hown hgrow _)
          obtain ⟨g8, c8, hv8, _, _⟩ := hown.form (by omega)
          subst hv8
          have hlt8 := HOWX.out.lt
          have HB8 := Lib.hid ((HLX.out.alloc HLX.out.size (.cells #[.int .i64 L, .int .i64 Nb, .slice al lc cl, .slice au uc cu] 34)).grown hgrow (by have := HLX.out.size; simp at *; omega) (fun k hk => (hlt8 k hk).1))
          have HW8 := Lib.hid (show w8.ownsRow w4.heap.size 34 4 (.slice (some ⟨g8, 0, none⟩) (k + 1) c8) (k + 1) (tkV T AL AU CL CU (delayF T dn u) (k + 1)) by
            unfold tkV
            rw [HNB.out, HE6.out.1, HE6.out.2.1, HE6.out.2.2.1, HE6.out.2.2.2.1, HE6.out.2.2.2.2.1, HE6.out.2.2.2.2.2.1, HE6.out.2.2.2.2.2.2]
            exact hown)
          clear hown hgrow hlt8
          go_roundw
          case rel => exact ⟨_, k + 1, c8, rfl, by go_num, by omega, HW8, HB8⟩
          case measure => simp [intOf]; omega
      · obtain rfl : n = k := by omega
        have hown := HOW.out
        have HBA := Lib.hid (thenB HB4.out HLB.out)
        have HRm : Hid (PlanR wA ob AL AU CL CU (T.later (delayF T dn u))) := Lib.hid (by
          have h1 : wA.ownsRow w4.heap.size 34 4 (.slice ob n cap2) T.n (tkV T AL AU CL CU (delayF T dn u) T.n) := by rw [HNN.out]; exact hown
          obtain ⟨ob2, c2, hv, h2⟩ := PlanR.made (HR.out.call HBA.out) h1
          simp only [Value.slice.injEq] at hv
          rw [hv.1]
          exact h2)
        have HOKm := Lib.hid (Plan.later_ok HOK.out fun i hi => (delay_bd HOK.out dn u i hi).1)
        have HGE := Lib.hid (show ∀ i, i < T.n → T.nb i ≤ delayF T dn u i from fun i hi => (delay_bd HOK.out dn u i hi).2)
        have HTA := Lib.hid (HT4.out.call HLB.out)
        have HOA := Lib.hid (HO4.out.call HLB.out)
        have HNNm := Lib.hid (show (T.later (delayF T dn u)).n = n from HNN.out)
        have HLCm := Lib.hid (show ∀ i, i < n → (T.later (delayF T dn u)).lc i ≤ 9223372036854775807 ∧ (T.later (delayF T dn u)).uc i ≤ 9223372036854775807 from HLC.out)
        have HLENm := Lib.hid (show (T.later (delayF T dn u)).len = T.len from rfl)
        have HLASTm := Lib.hid (show ∀ t, Plan.last (T.later (delayF T dn u)) t (T.later (delayF T dn u)).n = Plan.last T t T.n from fun t => Plan.later_last T _ t _)
        have HFEm := Lib.hid (show ∀ t, Plan.Feas (T.later (delayF T dn u)) t → Plan.Feas T t from fun t h => Plan.later_feas HGE.out h)
        obtain ⟨Tm, hTm⟩ : ∃ x, T.later (delayF T dn u) = x := ⟨_, rfl⟩
        rw [hTm] at HRm HOKm HNNm HLCm HLENm HLASTm HFEm
        clear hown HOW hTm HLB HO4 HT4 HB4
        go_wp2_with fail
        refine (plainEarly_any ob cap2 AL AU CL CU Tm n wA HNNm.out HTA.out hn HLCm.out HRm.out).mono ?_
        rintro e w5 ⟨v5, x5, rfl, hV5, hb5⟩
        obtain ⟨rfl, B5, s5, rfl, hB5, hO5, hF5, hbd5⟩ := hV5.ok (Plan.ok_chk HOKm.out)
        rw [HNNm.out] at hO5 hbd5
        rw [HLENm.out] at hO5
        have HO5 := Lib.hid hO5
        have HF5 := Lib.hid hF5
        have HD5 := Lib.hid hbd5
        have HFE5 := Lib.hid (HFEm.out s5 hF5.feas)
        have HS5 := Lib.hid (HOA.out.call hb5)
        have HT5 := Lib.hid (HTA.out.call hb5)
        have HRm5 := Lib.hid (HRm.out.call hb5)
        have HB5 := Lib.hid (thenB HBA.out hb5)
        rw [HNNm.out]
        clear hO5 hF5 hbd5 hb5 hV5 hB5 HOA HTA HRm HBA
        go_wp2_with fail
        refine (plainEnd_any ob cap2 AL AU CL CU Tm n w5 HNNm.out HT5.out hn HLCm.out HRm5.out).mono ?_
        rintro e w6 ⟨v6, x6, rfl, hV6, hb6⟩
        obtain ⟨rfl, rfl⟩ := hV6.ok (Plan.ok_chk HOKm.out) HF5.out
        rw [HLASTm.out]
        have HO6 := Lib.hid (HO5.out.call hb6)
        have HS6 := Lib.hid (HS5.out.call hb6)
        have HT6 := Lib.hid (HT5.out.call hb6)
        have HB6 := Lib.hid (thenB HB5.out hb6)
        have hYb := last_bd HOK.out (by rw [HNN.out]; exact HD5.out) T.n (Nat.le_refl _)
        have hEY : Plan.last T s T.n ≤ Plan.last T s5 T.n := Plan.last_mono fun i hi => HF.out.least HOK.out.full HFE5.out i hi
        have hUF := Plan.ufeas_of HFE5.out
        rw [HE.out] at hEY
        obtain ⟨Y, hY⟩ : ∃ x, Plan.last T s5 T.n = x := ⟨_, rfl⟩
        rw [hY] at hYb hEY hUF ⊢
        have HUF := Lib.hid hUF
        clear hb6 hV6 HO5 HS5 HT5 HB5 HRm5 hY hUF
        go_wp2_with fail
        refine (plainLate_any oa cap AL AU CL CU T n Y w6 HNN.out HT6.out hn HLC.out (HR.out.call HB6.out)).mono ?_
        rintro e w7 ⟨v7, x7, rfl, hV7, hb7⟩
        obtain ⟨rfl, B7, q7, rfl, hB7, hO7, hL7, hbd7⟩ := hV7.ok HC.out HF.out (by rw [HE.out]; exact hEY) (by omega)
        rw [HNN.out] at hO7 hbd7
        rw [HNN.out]
        have HQ7 := Lib.hid hO7
        have HL7 := Lib.hid hL7
        have HD7 := Lib.hid hbd7
        have HO7 := Lib.hid (HO6.out.call hb7)
        have HS7 := Lib.hid (HS6.out.call hb7)
        have HB7 := Lib.hid (thenB HB6.out hb7)
        have hEYd : decide (Y < E) = false := decide_eq_false (by omega)
        clear hO7 hL7 hbd7 hb7 hV7 hB7 HO6 HS6 HT6 HB6
        go_wp2_with (go_at_call 11; refine (fits_yes oa cap AL AU CL CU T n B5 n s5 w7 HNN.out HOK.out HFE5.out (fun i hi => by have := HD5.out i hi; omega) (HR.out.call HB7.out) HO7.out).mono ?_; rintro e w8 ⟨rfl, hb8⟩; have HO8 := Lib.hid (HO7.out.call hb8); have HS8 := Lib.hid (HS7.out.call hb8); have HQ8 := Lib.hid (HQ7.out.call hb8); have HB8 := Lib.hid (thenB HB7.out hb8); clear hb8)
        go_loopw [19] (fun c wr => ∃ k : Nat, c = .int .i64 (k : Int) ∧ k ≤ n ∧ Hid (Below w8.heap.size w8 wr)) (fun c _ => n - (intOf c).toNat)
        case atStart => exact ⟨0, rfl, by omega, Lib.hid (Below.refl _ _)⟩
        case round =>
          obtain ⟨k, rfl, hk, HLB⟩ := hrel
          obtain ⟨wB, rfl⟩ : ∃ wo : World, wo = wr := ⟨_, rfl⟩
          by_cases hkn : k < n
          · have HIN := Lib.hid (show k < T.n by rw [HNN.out]; exact hkn)
            obtain ⟨⟨a0, _⟩, _, _⟩ := (HS8.out.call HLB.out).2 k hkn
            obtain ⟨⟨b0, _⟩, _, _⟩ := (HO8.out.call HLB.out).2 k hkn
            obtain ⟨⟨c0, _⟩, c1, _⟩ := (HQ8.out.call HLB.out).2 k hkn
            have p1 := HF.out.least HOK.out.full HFE5.out k HIN.out
            have p2 := HL7.out.2 s5 HUF.out k HIN.out
            have p3 := HL7.out.1.1 k HIN.out
            obtain ⟨SS, hSS⟩ : ∃ x, s k = x := ⟨_, rfl⟩
            obtain ⟨OO, hOO⟩ : ∃ x, s5 k = x := ⟨_, rfl⟩
            obtain ⟨QQ, hQQ⟩ : ∃ x, q7 k = x := ⟨_, rfl⟩
            rw [hSS] at a0 p1
            rw [hOO] at b0 p1 p2
            rw [hQQ] at c0 p2 p3
            obtain ⟨QT, hQT⟩ : ∃ x, q7 k + T.len k = x := ⟨_, rfl⟩
            simp only [hQT] at c1
            have p4 : QT ≤ Y := by rw [← hQT, hQQ]; omega
            have d1 : decide (OO < SS) = false := decide_eq_false (by omega)
            have d2 : decide (QQ < OO) = false := decide_eq_false (by omega)
            have d3 : decide (Y < QT) = false := decide_eq_false (by omega)
            have k1 : (0 : Int) ≤ (k : Int) := by omega
            have k2 : (k : Int) < (n : Int) := by omega
            have r1 := cell_regrown a0
            have r2 := cell_regrown b0
            have r3 := cell_regrown c0
            have r4 := cell_regrown c1
            clear hSS hOO hQQ hQT a0 b0 c0 c1 p1 p2 p3 p4
            go_wp2_with fail
            refine wp_region_below (by kernel_rfl) (by kernel_rfl) ?_
            repeat (go_big_quiet_step (fail))
            refine wpQuiet_nil ?_
            intro w9 hb9
            have HLB9 := Lib.hid (thenB HLB.out hb9)
            clear hb9 r1 r2 r3 r4
            go_wp2_with fail
            go_roundw
            case rel => exact ⟨k + 1, by go_num, by omega, HLB9⟩
            case measure => simp [intOf]; omega
          · obtain rfl : n = k := by omega
            go_wp2_with fail
            go_ret
            exact ⟨rfl, thenB HB8.out HLB.out⟩
  · have HC := Lib.hid hc
    obtain ⟨rfl, rfl⟩ := HV2.out.err hc
    have hcb : (T.chk != 0) = true := by simpa using hc
    have hcc : (T.chk == T.chk) = true := by simp
    clear hc
    go_wp2_with fail
    go_ret
    exact ⟨rfl, HB2.out⟩
end Go.Proofs.YthhaopdimilmcaaDoor
