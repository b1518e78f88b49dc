/- The document's CloseNet. -/
import Derived.Test.YtpmppgmnnnlonaaDoorSpanW
namespace Go.Proofs.YtpmppgmnnnlonaaDoor
open Go.RowKit
theorem rback_Q (s : Nat) (w : World) (hs : s < 8192) : Calls Tryd.prog 13 #[.int .i64 (s : Int)] w fun e w' => e = .returned (.tuple #[.int .i64 (backN s : Int), .int .i64 0]) ∧ Below w.heap.size w w' := by
  have h := rback_any (s : Int) w
  have hok : (0 : Int) ≤ (s : Int) ∧ (s : Int) ≤ 8191 := by omega
  unfold TwoRetT bkV bkE at h
  rw [if_pos hok, if_pos hok, Int.toNat_natCast] at h
  exact h
/-- A long row, read in a quiet region. -/
theorem quiet_load_mid {P : Program} {C : World → Prop} {o : Oper} {a : Act} {K : Act → Prop} (ty : TypeId) (x : Operand) (ho : o.op = .load ty x) (b off : Nat) (hx : a.eval x = .pointer (some ⟨b, off, none⟩)) (cs : List Value) (d : TypeDesc) (hc : ∀ w, C w → w.rangeAt b off cs)
    (hu : P.underlying ty = some d) (hd : d.isRow = true) (hi : (P.info? ty).map (·.size) = some cs.length) (hk : K (a.put o.dst (.agg cs.toArray))) : o.quiet P a C K :=
  ⟨_, fun w hw => by
    unfold Oper.quietAt execOp
    simp only [ho, hx, Instr.loadAt, Instr.sureAddr, Sem.run_bind, Sem.run_pure, Result.andThen_ok, run_loadVar_mid w b off ty cs d (hc w hw) hu hd hi]
    exact ⟨rfl, rfl⟩, hk⟩
/-- The table, stored into a block just laid. -/
theorem tab_stored (w : World) (t : TypeId) : Tbl ((w.alloc (.cells Tryd.zeroCells62 t)).setCells w.heap.size 0 tabL) w.heap.size (fun i => Sp.tab (i / 13) (i % 13)) := by
  have h0 : Tbl (w.alloc (.cells Tryd.zeroCells62 t)) w.heap.size (fun _ => 0) := ⟨by simp, fun i hi => by rw [World.cell?_alloc_at _ _ _ _ (by simp)]; exact zero_cells2 i hi, fun i => by simp⟩
  have h1 := World.rangeAt_setCells_same (w.alloc (.cells Tryd.zeroCells62 t)) w.heap.size 0 tabL (by rw [tabL_len]; exact h0.there)
  refine ⟨?_, fun i hi => ?_, fun i => by rw [World.frozen?_setCells]; exact h0.2.2 i⟩
  · have hb := below_setCells (B := w.heap.size) ((Below.refl w.heap.size w).alloc (Nat.le_refl _) (.cells Tryd.zeroCells62 t)) tabL 0 (Nat.le_refl _)
    have hs : ∀ (l : List Value) (o : Nat) (x : World), (x.setCells w.heap.size o l).heap.size = x.heap.size := by
      intro l
      induction l with
      | nil => exact fun _ _ => rfl
      | cons v r ih => exact fun o x => (ih (o + 1) _).trans (by simp [World.setCell])
    rw [hs]; simp
  · have := h1 i _ (tabL_at i hi)
    rwa [Nat.zero_add] at this
def RCloseR (w : World) (n : Nat) (N : Nat → Nat → Nat) (e : Ending) (w' : World) : Prop :=
  ∃ X, TopD n N X ∧ ((∃ i k, i < n ∧ k < n ∧ X i k = 0) ∧ e = .returned (.tuple #[.slice none 0 0, .int .i64 12]) ∨ (∀ i k, i < n → k < n → X i k ≠ 0) ∧ ∃ O c R cp, e = .returned (.tuple #[.slice (some ⟨O, 0, none⟩) n c, .int .i64 0]) ∧ MatR w' w.heap.size O n n R cp X) ∧ Below w.heap.size w w'
/-- The net at the start of the document's sweeps. -/
def startD (N : Nat → Nat → Nat) (i k : Nat) : Nat := if i = k then N i k &&& 64 else N i k
def DRel (n : Nat) (N : Nat → Nat → Nat) (w : World) (b O T : Nat) (g : Nat) (t : Bool) (wr : World) : Prop := ∃ R cp X, CSt w b O T n n R cp X wr ∧ InvD n N X ∧ (t = false → ∀ i j, i < n → j < n → foldJ X i j n = X i j) ∧ 2 * sumX X n n + (if t then 1 else 0) ≤ g
def SwD (n : Nat) (N : Nat → Nat → Nat) (S0 I K : Nat) (X : Nat → Nat → Nat) (t : Bool) : Prop := InvD n N X ∧ (t = false → sumX X n n = S0 ∧ ∀ i k, i < n → k < n → (i < I ∨ i = I ∧ k < K) → foldJ X i k n = X i k) ∧ (t = true → sumX X n n < S0)
def ERel (n : Nat) (N : Nat → Nat → Nat) (w : World) (b O T S0 I K : Nat) (t : Bool) (wr : World) : Prop := ∃ R cp X, CSt w b O T n n R cp X wr ∧ SwD n N S0 I K X t
theorem SwD.start {n : Nat} {N X : Nat → Nat → Nat} (h : InvD n N X) : SwD n N (sumX X n n) 0 0 X false := ⟨h, fun _ => ⟨rfl, fun i k _ _ h => by omega⟩, fun h => by cases h⟩
theorem SwD.row {n : Nat} {N X : Nat → Nat → Nat} {S0 I : Nat} {t : Bool} (h : SwD n N S0 I n X t) : SwD n N S0 (I + 1) 0 X t := ⟨h.1, fun e => ⟨(h.2.1 e).1, fun i k hi hk hh => (h.2.1 e).2 i k hi hk (by omega)⟩, h.2.2⟩
theorem SwD.same {n : Nat} {N X : Nat → Nat → Nat} {S0 I K : Nat} {t : Bool} (h : SwD n N S0 I K X t) (e : foldJ X I K n = X I K) : SwD n N S0 I (K + 1) X t := by
  refine ⟨h.1, fun ht => ⟨(h.2.1 ht).1, fun i k hi hk hh => ?_⟩, h.2.2⟩
  by_cases hx : i = I ∧ k = K
  · obtain ⟨rfl, rfl⟩ := hx; exact e
  · exact (h.2.1 ht).2 i k hi hk (by omega)
theorem SwD.less {n : Nat} {N X : Nat → Nat → Nat} {S0 I K : Nat} {t : Bool} (h : SwD n N S0 I K X t) (hI : I < n) (hK : K < n) (e : foldJ X I K n ≠ X I K) : SwD n N S0 I (K + 1) (setX X I K (foldJ X I K n)) true := by
  have hle := (foldJ_le X I K n).2
  have hl := sum_less (X := X) (i := I) (j := K) (v := foldJ X I K n) hI hK (by omega)
  refine ⟨h.1.step hI hK, fun h => (by cases h), fun _ => ?_⟩
  cases t with
  | false => have := (h.2.1 rfl).1; omega
  | true => have := h.2.2 rfl; omega
set_option maxRecDepth 100000 in
set_option maxHeartbeats 16000000 in
theorem closeNet_any (oa : Option Addr) (n cap : Nat) (A : Nat → Option Addr) (L C : Nat → Nat) (z : Nat → Nat → Int) (w : World) (hn : n ≤ 1000000) (hL : ∀ i, i < n → L i ≤ 9223372036854775807) (hE : netE n L z = 0) (hR : NetR w oa n A L C z) : Calls Tryd.prog 18 #[.slice oa n cap] w (RCloseR w n (fun i k => (z i k).toNat)) := by
  have HR := Lib.hid hR
  have HL := Lib.hid hL
  clear hR hL
  obtain ⟨n1, n6, hrows⟩ := net_ok hE
  obtain ⟨a, rfl⟩ := HR.out.1 (by omega)
  have HE := Lib.hid hE
  obtain ⟨N, hNN⟩ : ∃ N : Nat → Nat → Nat, N = fun i k => (z i k).toNat := ⟨_, rfl⟩
  rw [← hNN]
  have hN : SmallX n N := fun i k hi hk => by
    have h := (hrows i hi).2 k hk
    unfold okS at h
    rw [hNN]; dsimp only; omega
  have HN := Lib.hid hN
  have hat : ∀ wx : World, Below w.heap.size w wx → ∀ i, i < n → ∃ r, wx.cell? (a.add i) = some (.slice (some r) n (C i)) ∧ ∀ k, k < n → wx.cell? (r.add k) = some (.int .i64 (N i k : Int)) := fun wx hb i hi => by
    obtain ⟨h1, h2, h3⟩ := ((HR.out.call hb).2 a rfl).2 i hi
    have hLi := (hrows i hi).1
    obtain ⟨r, hr⟩ := h2 (by omega)
    obtain ⟨_, h4⟩ := h3 r hr
    rw [hr, hLi] at h1
    refine ⟨r, h1, fun k hk => ?_⟩
    have hz := (hrows i hi).2 k hk
    rw [h4 k (by omega), hNN]
    show _ = some (Value.int .i64 (((z i k).toNat : Nat) : Int))
    rw [Int.toNat_of_nonneg hz.1]
  have HAT := Lib.hid hat
  clear hrows hE hNN hN hat
  obtain ⟨i0, hi0, hz0, hz1, hz2⟩ := info_parts sets_info
  obtain ⟨j0, hj0, hy0, hy1, hy2⟩ := info_parts rows_info
  go_enter Tryd.func18, Tryd.ntmps18
  go_wp2_with fail
  refine (netCheck_any (some a) n cap A L C z _ hn HL.out HR.out).mono ?_; rintro e w' ⟨rfl, hw⟩; obtain rfl := hw.symm; clear hw
  rw [HE.out]
  go_wp2_with fail
  refine (Table_any _).mono ?_; rintro e w1 ⟨rfl, hb1⟩
  have ht0 := (Tbl.there (⟨by simp, fun i hi => by rw [World.cell?_alloc_at _ _ _ _ (by simp)]; exact zero_cells2 i hi, fun i => by simp⟩ : Tbl (w1.alloc (.cells Tryd.zeroCells62 62)) w1.heap.size (fun _ => 0)))
  have hst := run_storeCells_cells (P := Tryd.prog) w1.heap.size 0 tabL 0 (w1.alloc (.cells Tryd.zeroCells62 62)) (fun j hj => (ht0 j (by rw [tabL_len] at hj; exact hj)).1) (fun j hj => (ht0 j (by rw [tabL_len] at hj; exact hj)).2) tabL_one
  simp only [Nat.add_zero] at hst
  have HTB := Lib.hid (tab_stored w1 62)
  have HB1 := Lib.hid (below_setCells (B := w1.heap.size) (hb1.alloc hb1.size (.cells Tryd.zeroCells62 62)) tabL 0 hb1.size)
  clear hb1 ht0
  obtain ⟨w2, hw2⟩ : ∃ w2, (w1.alloc (.cells Tryd.zeroCells62 62)).setCells w1.heap.size 0 tabL = w2 := ⟨_, rfl⟩
  rw [hw2] at hst HTB HB1
  clear hw2
  go_wp2_with fail
  have HS := Lib.hid (DSt.start (n := n) HTB.out HB1.out)
  have hTlt := HTB.out.1
  clear hst
  go_loopw [7, 8] (fun v c wr => ∃ i : Nat, c = .int .i64 (i : Int) ∧ i ≤ n ∧ w2.heap.size ≤ wr.heap.size ∧ ∃ R cp X, Hid (DSt w w2.heap.size w1.heap.size v i n R cp X wr) ∧ Hid (∀ a k, a < i → k < n → X a k = startD N a k)) (fun _ c _ => n - (intOf c).toNat)
  case atStart => exact ⟨0, rfl, by omega, Nat.le_refl _, _, _, _, HS, Lib.hid fun a k ha => absurd ha (Nat.not_lt_zero a)⟩
  case round =>
    clear HS
    obtain ⟨i, rfl, hi, hbz, R, cp, X, HS, HX⟩ := hrel
    obtain ⟨wA, rfl⟩ : ∃ wo : World, wo = wr := ⟨_, rfl⟩
    by_cases hlt : i < n
    · have hFd : decide ((i : Int) < (n : Int)) = true := by simp; omega
      have i1 : (0 : Int) ≤ (i : Int) := by omega
      have i2 : (i : Int) < (n : Int) := by omega
      obtain ⟨r, p1, hp2⟩ := HAT.out wA HS.out.2.2.2.2.1 i hlt
      have HP2 := Lib.hid hp2
      clear hp2
      have hlen : ((List.range n).map fun k => Value.int .i64 (N i k : Int)).length = n * 1 := by simp
      have hnews : ∀ (wx : World), (∀ k, k < n → wx.cell? (r.add k) = some (.int .i64 (N i k : Int))) → ∀ j u, ((List.range n).map fun k => Value.int .i64 (N i k : Int))[j]? = some u → wx.cell? (r.add j) = some u := fun wx hx j u hu => by
        have hj : j < n := by have := (List.getElem?_eq_some_iff.1 hu).1; simpa using this
        rw [hx j hj, ← hu]; simp [hj]
      have hone : ∀ u ∈ ((List.range n).map fun k => Value.int .i64 (N i k : Int)), u.oneCell' = true := fun u hu => by
        obtain ⟨k, _, rfl⟩ := List.mem_map.1 hu; rfl
      have HNEWS := Lib.hid (And.intro hlen (And.intro hnews hone))
      clear hlen hnews hone
      have hcellA : ∀ k, k < n → (wA.alloc (.cells #[] 27)).cell? (r.add k) = some (.int .i64 (N i k : Int)) := fun k hk => by
        rw [World.cell?_alloc_lt _ _ (r.add k) (World.block_lt_of_cell? _ _ (HP2.out k hk))]
        exact HP2.out k hk
      have HCA := Lib.hid hcellA
      clear hcellA
      have p1a : (wA.alloc (.cells #[] 27)).cell? (a.add i) = some (.slice (some r) n (C i)) := by
        rw [World.cell?_alloc_lt _ _ (a.add i) (World.block_lt_of_cell? _ _ p1)]
        exact p1
      clear p1
      have hvl := HS.out.1.lt
      have HVL := Lib.hid hvl
      clear hvl
      go_wp2_with (first
        | (at_builtin; refine wpList_append_own _ rfl (.tmp 32) (.tmp 36) 66 rfl wA.heap.size 27 i0 (.int .i64 0) 1 8 Tryd.underlying66 hi0 hz0 hz1 hz2 rfl (by decide) _ 0 [] rfl (own_empty wA wA.heap.size _ 1 (Nat.le_refl _)) r n _ ((List.range n).map fun k => Value.int .i64 (N i k : Int)) rfl HNEWS.out.1 (HNEWS.out.2.1 _ HCA.out) HNEWS.out.2.2 (by unfold maxLen; omega) (by omega) (by simp) ?_; intro v1 w3 hown1 hgrow1 _; have hg1 : (wA.alloc (.cells #[] 27)).grownBy w3 (some wA.heap.size) := hgrow1; clear hgrow1; simp only [Nat.zero_add, List.nil_append] at hown1; obtain ⟨g, c1, hv1, hgl, hgu⟩ := hown1.form (by omega); subst hv1; have HB3 := Lib.hid (((Below.refl wA.heap.size wA).alloc (Nat.le_refl _) _).grown hg1 (by simp) (fun k hk => by injection hk with hk; omega)); have HO1 := Lib.hid hown1; clear hown1 hg1)
        | (at_builtin; refine wpList_append_own_at _ rfl (.tmp 31) (.tmp 38) 36 rfl w2.heap.size 66 j0 (.slice none 0 0) 1 24 Tryd.underlying36 hj0 hy0 hy1 hy2 rfl (by decide) _ _ _ rfl ((HS.out.call HB3.out).1.alloc _) ⟨w3.heap.size, 0, none⟩ 1 1 [.slice (some ⟨g, 0, none⟩) n c1] rfl rfl (cells_here w3 _ _) (by simp [Value.oneCell']) (by unfold maxLen; omega) (by omega) (by have := HB3.out.size; simp; omega) ?_; intro v' w4 hown2 hgrow2 _ hat2; have hg2 : (w3.alloc (.cells #[.slice (some ⟨g, 0, none⟩) n c1] 66)).grownBy w4 (u7.ownBlock) := hgrow2; have HG := Lib.hid (HS.out.grow hbz HB3.out HO1.out hgl hgu hg2 hown2 hat2); have hbz4 : w2.heap.size ≤ w4.heap.size := (by have h1 := HB3.out.size; have h2 := hg2.size; simp at h2; omega); clear hgrow2 hg2 hown2 hat2))
      obtain ⟨O, c, rfl, hbO, hOlt, hO1, hO2⟩ := HG.out.form (by omega)
      have q1 := (hO1 i (by omega)).1
      obtain ⟨f1, f2, f3, f4⟩ := HG.out.2.1 i (by omega)
      obtain ⟨q2, q3⟩ := f4 i hlt
      have hset := HG.out.set (show i < i + 1 by omega) hlt (N i i &&& 64)
      simp only [if_true] at q1 q2 q3 hset
      have HSET := Lib.hid hset
      have r1 := cell_regrown q1
      have r2 := cell_regrown q2
      have hnii := HN.out i i hlt hlt
      have hand := (set_and (N i i) 64 hnii (by decide)).1
      have e64 : ((64 : Nat) : Int) = 64 := rfl
      rw [e64] at hand
      clear e64 hset hO1 hO2 f1 f2 f3 f4
      refine wp_region_below_tail 14 (by kernel_rfl) (by kernel_rfl) ?_
      simp only [List.take_succ_cons, List.take_zero, List.drop_succ_cons, List.drop_zero]
      repeat (go_big_quiet_step (fail))
      refine wpQuiet_nil ?_
      intro w5 hb5
      have hG5 := HG.out.call hb5
      have hz5 := hb5.size
      clear hb5 r1 r2 q1 q2 q3 HSET
      obtain ⟨_, _, _, f4⟩ := hG5.2.1 i (by omega)
      obtain ⟨q2, q3⟩ := f4 i hlt
      have hset := hG5.set (show i < i + 1 by omega) hlt (N i i &&& 64)
      simp only [if_true] at q2 q3 hset
      have HSET := Lib.hid hset
      clear hset hG5 f4
      go_wp2_with fail
      go_roundw
      case rel =>
        refine ⟨i + 1, by go_num, by omega, by simp [World.setCell]; omega, _, _, _, HSET, Lib.hid fun a l ha hl => ?_⟩
        by_cases e : a = i
        · subst e
          by_cases e2 : l = a
          · subst e2; rw [setX_at]; unfold startD; rw [if_pos rfl]
          · rw [setX_off (by omega)]
            unfold startD
            simp only [if_true]
            rw [if_neg (by omega)]
        · rw [setX_off (by omega)]
          show (if a = i then _ else X a l) = _
          rw [if_neg e]; exact HX.out a l (by omega) hl
      case measure => simp [intOf]; omega
    · obtain rfl : n = i := by omega
      obtain ⟨O, c, rfl, _⟩ := HS.out.form (by omega)
      have hI := InvD.start HN.out (fun i j hi hj => HX.out i j hi hj)
      have HM0 : Hid (DRel n N w w2.heap.size O w1.heap.size (2 * sumX X n n + 1) true wA) := Lib.hid ⟨R, cp, X, HS.out.toC (by omega), hI, fun h => (by cases h), by simp⟩
      obtain ⟨G, hG⟩ : ∃ G, 2 * sumX X n n + 1 = G := ⟨_, rfl⟩
      rw [hG] at HM0
      clear hI HS HX hG
      go_wp2_with fail
      go_loopg [9] G (fun g ag wr => ∃ t : Bool, ag = .bool t ∧ Hid (DRel n N w w2.heap.size O w1.heap.size g t wr))
      case atStart => exact ⟨true, rfl, HM0⟩
      case round =>
        clear HM0
        obtain ⟨t, rfl, HMR⟩ := hrel
        obtain ⟨wC, rfl⟩ : ∃ wo : World, wo = wr := ⟨_, rfl⟩
        cases t with
        | true =>
          obtain ⟨R0, cp0, X0, hS0, hI0, _, hsum⟩ := HMR.out
          have H0 : Hid (ERel n N w w2.heap.size O w1.heap.size (sumX X0 n n) 0 0 false wC) := Lib.hid ⟨R0, cp0, X0, hS0, SwD.start hI0⟩
          obtain ⟨S0, hS00⟩ : ∃ S0, sumX X0 n n = S0 := ⟨_, rfl⟩
          rw [hS00] at H0 hsum
          simp only [if_true] at hsum
          clear hS0 hI0 hS00 HMR
          go_wp2_with fail
          go_loopw [9, 10] (fun ag c wr => ∃ (t : Bool) (I : Nat), ag = .bool t ∧ c = .int .i64 (I : Int) ∧ I ≤ n ∧ Hid (ERel n N w w2.heap.size O w1.heap.size S0 I 0 t wr)) (fun _ c _ => n - (intOf c).toNat)
          case atStart => exact ⟨false, 0, rfl, rfl, by omega, H0⟩
          case round =>
            clear H0
            obtain ⟨t, I, rfl, rfl, hI, H1⟩ := hrel
            obtain ⟨wD, rfl⟩ : ∃ wo : World, wo = wr := ⟨_, rfl⟩
            by_cases hI2 : I < n
            · have hFd : decide ((I : Int) < (n : Int)) = true := by simp; omega
              go_wp2_with fail
              go_loopw [9, 11] (fun ag c wr => ∃ (t : Bool) (K : Nat), ag = .bool t ∧ c = .int .i64 (K : Int) ∧ K ≤ n ∧ Hid (ERel n N w w2.heap.size O w1.heap.size S0 I K t wr)) (fun _ c _ => n - (intOf c).toNat)
              case atStart => exact ⟨t, 0, rfl, rfl, by omega, H1⟩
              case round =>
                clear H1
                obtain ⟨t, K, rfl, rfl, hK, H1⟩ := hrel
                obtain ⟨wE, rfl⟩ : ∃ wo : World, wo = wr := ⟨_, rfl⟩
                by_cases hK2 : K < n
                · have hFd2 : decide ((K : Int) < (n : Int)) = true := by simp; omega
                  obtain ⟨R, cp, X, hS, hW⟩ := H1.out
                  have i1 : (0 : Int) ≤ (I : Int) := by omega
                  have i2 : (I : Int) < (n : Int) := by omega
                  have k1 : (0 : Int) ≤ (K : Int) := by omega
                  have k2 : (K : Int) < (n : Int) := by omega
                  have q1 := hW.1.1 I K hI2 hK2
                  have q2 := hW.1.1 K I hK2 hI2
                  obtain ⟨p1, p2, _⟩ := hS.row hK2 hI2
                  have hand := (set_and (X I K) (backN (X K I)) q1 (backN_lt _)).1
                  have HS := Lib.hid hS
                  have HW := Lib.hid hW
                  have HQ := Lib.hid (And.intro q1 q2)
                  clear hS hW q1 q2 H1
                  go_wp2_with fail
                  refine (rback_Q _ _ HQ.out.2).mono ?_; rintro e w6 ⟨rfl, hb6⟩
                  have hS6 := HS.out.call hb6
                  clear hb6 p1 p2 HS
                  obtain ⟨p1, p2, _⟩ := hS6.row hI2 hK2
                  have HS := Lib.hid hS6
                  clear hS6
                  have hF0 : X I K &&& backN (X K I) = foldJ X I K 0 := rfl
                  rw [hF0] at hand
                  clear hF0
                  go_wp2_with fail
                  clear p1 p2 hand
                  go_loopw [14, 15] (fun s c wr => ∃ m : Nat, s = .int .i64 (foldJ X I K m : Int) ∧ c = .int .i64 (m : Int) ∧ m ≤ n ∧ Hid (CSt w w2.heap.size O w1.heap.size n n R cp X wr)) (fun _ c _ => n - (intOf c).toNat)
                  case atStart => exact ⟨0, rfl, rfl, by omega, HS⟩
                  case round =>
                    clear HS
                    obtain ⟨m, rfl, rfl, hm, HS⟩ := hrel
                    obtain ⟨wF, rfl⟩ : ∃ wo : World, wo = wr := ⟨_, rfl⟩
                    by_cases hm2 : m < n
                    · have m1 : (0 : Int) ≤ (m : Int) := by omega
                      have m2 : (m : Int) < (n : Int) := by omega
                      obtain ⟨p1, p2, _⟩ := HS.out.row hI2 hm2
                      obtain ⟨p3, p4, _⟩ := HS.out.row hm2 hK2
                      have r1 := cell_regrown p1
                      have r2 := cell_regrown p2
                      have r3 := cell_regrown p3
                      have r4 := cell_regrown p4
                      have s1 := HW.out.1.1 I m hI2 hm2
                      have s2 := HW.out.1.1 m K hm2 hK2
                      have s3 : foldJ X I K m < 8192 := Nat.lt_of_le_of_lt (foldJ_le X I K m).2 HQ.out.1
                      have hand := (set_and (foldJ X I K m) (joinN (X I m) (X m K)) s3 (joinN_lt _ _)).1
                      have hF1 : foldJ X I K m &&& joinN (X I m) (X m K) = foldJ X I K (m + 1) := rfl
                      rw [hF1] at hand
                      have HJ := Lib.hid (And.intro s1 s2)
                      have hrg : ∀ w', (∃ p : Regrown, w' = Go.Sort.grow (redrawn wF p.d) p.os) → w'.rangeAt w1.heap.size 0 tabL := fun w' ⟨p, hp⟩ => by
                        rw [hp]; exact (HS.out.2.2.1.call (below_regrown _ _ _)).range
                      have HRG := Lib.hid hrg
                      have hi62 : (Tryd.prog.info? 62).map (·.size) = some tabL.length := by rw [tabL_len]; kernel_rfl
                      have HI62 := Lib.hid hi62
                      clear p1 p2 p3 p4 s1 s2 s3 hF1 hrg hi62
                      go_wp2_with fail
                      refine wp_region_below (by kernel_rfl) (by kernel_rfl) ?_
                      go_big_quiet_step (fail)
                      refine BigFrame.wpQuiet_want (by rfl) (fun K' hK' => quiet_load_mid 62 (.tmp 6) rfl w1.heap.size 0 rfl tabL _ HRG.out Tryd.underlying62 rfl HI62.out (hK' _ ?_))
                      simp only [Act.put, List.setIfInBounds_toArray, List.set_cons_succ, List.set_cons_zero]
                      repeat (go_big_quiet_step ((go_at_call 34; exact Calls.regrown_of (rjoin_any (X I m) (X m K) _ HJ.out.1 HJ.out.2))))
                      refine wpQuiet_nil ?_
                      intro w7 hb7
                      have HS7 := Lib.hid (HS.out.call hb7)
                      clear hb7 r1 r2 r3 r4
                      go_wp2_with fail
                      go_roundw
                      case rel => exact ⟨m + 1, rfl, by go_num, by omega, HS7⟩
                      case measure => simp [intOf]; omega
                    · obtain rfl : n = m := by omega
                      obtain ⟨p1, p2, p3⟩ := HS.out.row hI2 hK2
                      obtain ⟨V, hV⟩ : ∃ V, foldJ X I K n = V := ⟨_, rfl⟩
                      rw [hV]
                      have HV := Lib.hid hV
                      clear hV
                      by_cases hsame : V = X I K
                      · have hne : ((V : Int) != (X I K : Int)) = false := by simp [hsame]
                        have HSAME := Lib.hid (HV.out.trans hsame)
                        clear hsame
                        go_wp2_with fail
                        go_roundw
                        case rel => exact ⟨t, K + 1, rfl, by go_num, by omega, Lib.hid ⟨R, cp, X, HS.out, HW.out.same HSAME.out⟩⟩
                        case measure => simp [intOf]; omega
                      · have hne : ((V : Int) != (X I K : Int)) = true := by simp; omega
                        have HNE := Lib.hid (fun h : foldJ X I K n = X I K => hsame (HV.out.symm.trans h))
                        clear hsame
                        go_wp2_with fail
                        go_roundw
                        case rel =>
                          have hw := HW.out.less hI2 hK2 HNE.out
                          rw [HV.out] at hw
                          exact ⟨true, K + 1, rfl, by go_num, by omega, Lib.hid ⟨R, cp, _, HS.out.set hI2 hK2 V, hw⟩⟩
                        case measure => simp [intOf]; omega
                · obtain rfl : n = K := by omega
                  go_wp2_with fail
                  go_roundw
                  case rel =>
                    obtain ⟨R, cp, X, hS, hW⟩ := H1.out
                    exact ⟨t, I + 1, rfl, by go_num, by omega, Lib.hid ⟨R, cp, X, hS, hW.row⟩⟩
                  case measure => simp [intOf]; omega
            · obtain rfl : n = I := by omega
              obtain ⟨R, cp, X, hS, hW⟩ := H1.out
              have hnew : DRel n N w w2.heap.size O w1.heap.size (gk - 1) t wD ∧ gk - 1 < gk := by
                refine ⟨⟨R, cp, X, hS, hW.1, fun h => (by subst h; exact fun i j hi hj => (hW.2.1 rfl).2 i j hi hj (by omega)), ?_⟩, by omega⟩
                cases t with
                | false => have := (hW.2.1 rfl).1; simp; omega
                | true => have := hW.2.2 rfl; simp; omega
              have HNEW := Lib.hid hnew
              clear hnew hS hW H1
              go_wp2_with fail
              go_roundg (gk - 1)
              case measure => exact HNEW.out.2
              case rel => exact ⟨t, rfl, Lib.hid HNEW.out.1⟩
        | false =>
          obtain ⟨R, cp, X, hS, hI0, hcl, _⟩ := HMR.out
          have HTOP := Lib.hid (hI0.done (hcl rfl))
          have HS := Lib.hid hS
          clear hS hI0 hcl HMR
          go_wp2_with fail
          go_loop [16] (fun c => ∃ i : Nat, c = .int .i64 (i : Int) ∧ i ≤ n ∧ Hid (∀ a k, a < i → k < n → X a k ≠ 0)) (fun c => n - (intOf c).toNat)
          case atStart => exact ⟨0, rfl, by omega, Lib.hid fun a k ha => absurd ha (Nat.not_lt_zero a)⟩
          case round =>
            obtain ⟨i, rfl, hi, HZ⟩ := hrel
            by_cases hlt : i < n
            · have hFd : decide ((i : Int) < (n : Int)) = true := by simp; omega
              go_wp2_with fail
              go_loop [17] (fun c => ∃ k : Nat, c = .int .i64 (k : Int) ∧ k ≤ n ∧ Hid (∀ l, l < k → X i l ≠ 0)) (fun c => n - (intOf c).toNat)
              case atStart => exact ⟨0, rfl, by omega, Lib.hid fun l hl => absurd hl (Nat.not_lt_zero l)⟩
              case round =>
                obtain ⟨k, rfl, hk, HK⟩ := hrel
                by_cases hlt2 : k < n
                · have i1 : (0 : Int) ≤ (i : Int) := by omega
                  have i2 : (i : Int) < (n : Int) := by omega
                  have k1 : (0 : Int) ≤ (k : Int) := by omega
                  have k2 : (k : Int) < (n : Int) := by omega
                  obtain ⟨p1, p2, _⟩ := HS.out.row hlt hlt2
                  by_cases hz : X i k = 0
                  · have HZ0 := Lib.hid hz
                    rw [hz] at p2
                    clear hz
                    go_wp2_with fail
                    go_ret2
                    exact ⟨X, HTOP.out, .inl ⟨⟨i, k, hlt, hlt2, HZ0.out⟩, rfl⟩, HS.out.2.2.2.1⟩
                  · have hzb : ((X i k : Int) == 0) = false := by simp; omega
                    have HZ0 := Lib.hid hz
                    clear hz
                    go_wp2_with fail
                    go_round
                    case rel =>
                      refine ⟨k + 1, by go_num, by omega, Lib.hid fun l hl => ?_⟩
                      by_cases e : l = k
                      · subst e; exact HZ0.out
                      · exact HK.out l (by omega)
                    case measure => simp [intOf]; omega
                · obtain rfl : n = k := by omega
                  go_wp2_with fail
                  go_round
                  case rel =>
                    refine ⟨i + 1, by go_num, by omega, Lib.hid fun a l ha hl => ?_⟩
                    by_cases e : a = i
                    · subst e; exact HK.out l hl
                    · exact HZ.out a l (by omega) hl
                  case measure => simp [intOf]; omega
            · obtain rfl : n = i := by omega
              go_wp2_with fail
              go_ret2
              exact ⟨X, HTOP.out, .inr ⟨fun i k hi hk => HZ.out i k hi hk, _, _, R, cp, rfl, HS.out.1.low HS.out.2.2.2.2.2⟩, HS.out.2.2.2.1⟩
end Go.Proofs.YtpmppgmnnnlonaaDoor
