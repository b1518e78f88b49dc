/- The program's Close. -/
import Derived.Test.YtpmppgmnnnlonaaDoorSpanU
import Derived.Deep.LoopGhost
namespace Go.Proofs.YtpmppgmnnnlonaaDoor
open Go.RowKit
theorem CSt.start {w w1 : World} {T n : Nat} {M : Array Value} {t : TypeId} (hT : Tbl w1 T (fun i => Sp.tab (i / 13) (i % 13))) (hB : Below w.heap.size w w1) (hM : ∀ i, i < n → M[i]? = some (.slice none 0 0)) : CSt w w1.heap.size w1.heap.size T 0 n (fun _ => 0) (fun _ => 0) (fun _ _ => 0) (w1.alloc (.cells M t)) := by
  refine ⟨MatR.zero (Nat.le_refl _) (by simp), fun j hj => ⟨?_, by simp⟩, hT.alloc _, hB.alloc hB.size _, hT.1, hB.size⟩
  rw [World.cell?_alloc_at _ _ _ _ (by simp)]
  have h := hM j hj
  simp [h]
/-- The thirds that have been held against what is there. -/
def Upto (n I K J : Nat) (X : Nat → Nat → Nat) : Prop := ∀ i k j, i < n → k < n → j < n → (i < I ∨ i = I ∧ (k < K ∨ k = K ∧ j < J)) → Sub (X i j) (joinN (X i k) (X k j))
/-- A sweep under way: has something been left out? -/
def SwR (n : Nat) (N : Nat → Nat → Nat) (S0 I K J : Nat) (X : Nat → Nat → Nat) (t : Bool) : Prop := InvP n N X ∧ (t = false → sumX X n n = S0 ∧ Upto n I K J X) ∧ (t = true → sumX X n n < S0)
theorem SwR.start {n : Nat} {N X : Nat → Nat → Nat} (h : InvP n N X) : SwR n N (sumX X n n) 0 0 0 X false := ⟨h, fun _ => ⟨rfl, fun i k j _ _ _ h => by omega⟩, fun h => by cases h⟩
theorem SwR.row {n : Nat} {N X : Nat → Nat → Nat} {S0 I K : Nat} {t : Bool} (h : SwR n N S0 I K n X t) : SwR n N S0 I (K + 1) 0 X t := ⟨h.1, fun e => ⟨(h.2.1 e).1, fun i k j hi hk hj hh => (h.2.1 e).2 i k j hi hk hj (by omega)⟩, h.2.2⟩
theorem SwR.sheet {n : Nat} {N X : Nat → Nat → Nat} {S0 I : Nat} {t : Bool} (h : SwR n N S0 I n 0 X t) : SwR n N S0 (I + 1) 0 0 X t := ⟨h.1, fun e => ⟨(h.2.1 e).1, fun i k j hi hk hj hh => (h.2.1 e).2 i k j hi hk hj (by omega)⟩, h.2.2⟩
theorem SwR.same {n : Nat} {N X : Nat → Nat → Nat} {S0 I K J : Nat} {t : Bool} (h : SwR n N S0 I K J X t) (e : X I J &&& joinN (X I K) (X K J) = X I J) : SwR n N S0 I K (J + 1) X t := by
  refine ⟨h.1, fun ht => ⟨(h.2.1 ht).1, fun i k j hi hk hj hh => ?_⟩, h.2.2⟩
  by_cases hx : i = I ∧ k = K ∧ j = J
  · obtain ⟨rfl, rfl, rfl⟩ := hx; exact sub_of_and e
  · exact (h.2.1 ht).2 i k j hi hk hj (by omega)
theorem SwR.less {n : Nat} {N X : Nat → Nat → Nat} {S0 I K J : Nat} {t : Bool} (h : SwR n N S0 I K J X t) (hI : I < n) (hK : K < n) (hJ : J < n) (e : X I J &&& joinN (X I K) (X K J) ≠ X I J) : SwR n N S0 I K (J + 1) (setX X I J (X I J &&& joinN (X I K) (X K J))) true := by
  have hle : X I J &&& joinN (X I K) (X K J) ≤ X I J := Nat.and_le_left
  have hl := sum_less (X := X) (i := I) (j := J) (v := X I J &&& joinN (X I K) (X K J)) hI hJ (by omega)
  refine ⟨h.1.step hI hJ hK, fun h => (by cases h), fun _ => ?_⟩
  cases t with
  | false => have := (h.2.1 rfl).1; omega
  | true => have := h.2.2 rfl; omega
theorem SwR.closed {n : Nat} {N X : Nat → Nat → Nat} {S0 : Nat} (h : SwR n N S0 n 0 0 X false) : JClosed n X := fun i j k hi hj hk => (h.2.1 rfl).2 i k j hi hk hj (by omega)
/-- What Close answers. -/
def CloseR (w : World) (n : Nat) (N : Nat → Nat → Nat) (e : Ending) (w' : World) : Prop :=
  ∃ X, TopP n N X ∧ ((∃ i k, i < n ∧ k < n ∧ X i k = 0) ∧ e = .returned (.tuple #[.slice none 0 0, errV 12]) ∨ (∀ i k, i < n → k < n → X i k ≠ 0) ∧ ∃ O R cp, e = .returned (.tuple #[.slice (some ⟨O, 0, none⟩) n n, .nilIface]) ∧ MatR w' w.heap.size O n n R cp X) ∧ Below w.heap.size w w'
theorem MatR.low {w : World} {b b' O m n : Nat} {R cp : Nat → Nat} {X : Nat → Nat → Nat} (h : MatR w b O m n R cp X) (hb : b' ≤ b) : MatR w b' O m n R cp X := by
  obtain ⟨⟨h1, h2⟩, h3, h4⟩ := h
  refine ⟨⟨by omega, h2⟩, fun i hi => ?_, h4⟩
  obtain ⟨g1, g2, g3⟩ := h3 i hi
  exact ⟨g1, by omega, g3⟩
theorem errV12 : errV 12 = .iface 24 (.int .i64 12) := rfl
def MRel (n : Nat) (N : Nat → Nat → Nat) (w : World) (b O T : Nat) (g : Nat) (t : Bool) (wr : World) : Prop := ∃ R cp X, CSt w b O T n n R cp X wr ∧ InvP n N X ∧ (t = false → JClosed n X) ∧ 2 * sumX X n n + (if t then 1 else 0) ≤ g
def SRel (n : Nat) (N : Nat → Nat → Nat) (w : World) (b O T S0 I K J : Nat) (t : Bool) (wr : World) : Prop := ∃ R cp X, CSt w b O T n n R cp X wr ∧ SwR n N S0 I K J X t
set_option maxRecDepth 100000 in
set_option maxHeartbeats 16000000 in
theorem close_any (oa : Option Addr) (n cap : Nat) (A : Nat → Option Addr) (L C : Nat → Nat) (z : Nat → Nat → Int) (w : World) (hn : n ≤ 1000000) (hL : ∀ i, i < n → L i ≤ 9223372036854775807) (hE : netE n L z = 0) (hR : NetR w oa n A L C z) : Calls Tryd.prog 37 #[.slice oa n cap] w (CloseR w n (fun i k => (z i k).toNat)) := by
  have HR := Lib.hid hR
  have HL := Lib.hid hL
  clear hR hL
  obtain ⟨n1, n6, hrows⟩ := net_ok hE
  obtain ⟨a, rfl⟩ := HR.out.1 (by omega)
  have HOK := Lib.hid hrows
  have HE := Lib.hid hE
  obtain ⟨N, hNN⟩ : ∃ N : Nat → Nat → Nat, N = fun i k => (z i k).toNat := ⟨_, rfl⟩
  rw [← hNN]
  have hN : SmallX n N := fun i k hi hk => by
    have h := (hrows i hi).2 k hk
    unfold okS at h
    rw [hNN]; dsimp only; omega
  have HN := Lib.hid hN
  have hat : ∀ wx : World, Below w.heap.size w wx → ∀ i k, i < n → k < n → ∃ r, wx.cell? (a.add i) = some (.slice (some r) n (C i)) ∧ wx.cell? (r.add k) = some (.int .i64 (N i k : Int)) := fun wx hb i k hi hk => by
    have := (HR.out.call hb).at hi (hrows i hi).1 hk ((hrows i hi).2 k hk)
    rw [hNN]; exact this
  have HAT := Lib.hid hat
  clear hrows hE hNN hN hat
  obtain ⟨M, hM, hmk⟩ := make_sets n (by omega)
  obtain ⟨M2, hM2, hmk2⟩ := make_rows n (by omega)
  have HM := Lib.hid hM
  have HM2 := Lib.hid hM2
  clear hM hM2
  go_enter Tryd.func37, Tryd.ntmps37
  go_wp2_with fail
  refine (check_any (some a) n cap A L C z _ hn HL.out HR.out).mono ?_; rintro e w' ⟨rfl, hw⟩; obtain rfl := hw.symm; clear hw
  rw [HE.out, errV_nil]
  go_wp2_with fail
  refine (newTable_any _).mono ?_; rintro e w1 ⟨T, rfl, hT, hb1⟩
  have HS := Lib.hid (CSt.start (t := 66) hT hb1 HM2.out)
  have hTlt := hT.1
  clear hT hb1
  go_wp2_with fail
  go_loopw [28] (fun c wr => ∃ i : Nat, c = .int .i64 (i : Int) ∧ i ≤ n ∧ ∃ R cp X, Hid (CSt w w1.heap.size w1.heap.size T i n R cp X wr) ∧ Hid (∀ a k, a < i → k < n → X a k = startX N a k)) (fun c _ => n - (intOf c).toNat)
  case atStart => exact ⟨0, rfl, by omega, _, _, _, HS, Lib.hid fun a k ha => absurd ha (Nat.not_lt_zero a)⟩
  case round =>
    clear HS
    obtain ⟨i, rfl, hi, R, cp, X, HS, HX⟩ := hrel
    obtain ⟨wA, rfl⟩ : ∃ wo : World, wo = wr := ⟨_, rfl⟩
    by_cases hlt : i < n
    · have hFd : decide ((i : Int) < (n : Int)) = true := by simp; omega
      have i1 : (0 : Int) ≤ (i : Int) := by omega
      have i2 : (i : Int) < (n : Int) := by omega
      have hsz := HS.out.1.1.2
      obtain ⟨hu0, hfr⟩ := (HS.out.alloc (.cells M 27)).2.1 i hlt
      obtain ⟨u, hu⟩ := Option.isSome_iff_exists.1 hu0
      clear hu0
      have hg := HS.out.grow (t := 27) hlt HM.out
      rw [World.setCell_alloc_past _ _ _ _ hsz] at hg
      have HG := Lib.hid hg
      clear hg
      have hX0 : ∀ a k, a < i → k < n → (fun a k => if a = i then 0 else X a k) a k = startX N a k := fun a k ha hk => by
        show (if a = i then 0 else X a k) = _
        rw [if_neg (by omega)]; exact HX.out a k ha hk
      have HX0 := Lib.hid hX0
      clear hX0
      go_wp2_with fail
      clear hu hfr
      go_loopw [37] (fun c wr => ∃ k : Nat, c = .int .i64 (k : Int) ∧ k ≤ n ∧ ∃ R cp X, Hid (CSt w w1.heap.size w1.heap.size T (i + 1) n R cp X wr) ∧ Hid (∀ a k, a < i → k < n → X a k = startX N a k) ∧ Hid (∀ l, l < k → X i l = startX N i l)) (fun c _ => n - (intOf c).toNat)
      case atStart => exact ⟨0, rfl, by omega, _, _, _, HG, HX0, Lib.hid fun l hl => absurd hl (Nat.not_lt_zero l)⟩
      case round =>
        clear HG HX0 HS HX
        obtain ⟨k, rfl, hk, R, cp, X, HS, HX, HK⟩ := hrel
        obtain ⟨wB, rfl⟩ : ∃ wo : World, wo = wr := ⟨_, rfl⟩
        by_cases hlt2 : k < n
        · have k1 : (0 : Int) ≤ (k : Int) := by omega
          have k2 : (k : Int) < (n : Int) := by omega
          obtain ⟨r, p1, p2⟩ := HAT.out wB HS.out.2.2.2.1 i k hlt hlt2
          obtain ⟨r', p3, p4⟩ := HAT.out wB HS.out.2.2.2.1 k i hlt2 hlt
          obtain ⟨p5, _, _⟩ := HS.out.row (show i < i + 1 by omega) hlt2
          have r1 := cell_regrown p1
          have r2 := cell_regrown p2
          have r3 := cell_regrown p3
          have r4 := cell_regrown p4
          have r5 := cell_regrown p5
          clear p1 p2 p3 p4 p5
          have hn1 := HN.out i k hlt hlt2
          have hn2 := HN.out k i hlt2 hlt
          obtain ⟨V, hV⟩ : ∃ V, N i k &&& backN (N k i) = V := ⟨_, rfl⟩
          have hand := (set_and (N i k) (backN (N k i)) hn1 (backN_lt _)).1
          have hV8 := (set_and (N i k) (backN (N k i)) hn1 (backN_lt _)).2
          rw [hV] at hand hV8
          have HV := Lib.hid hV
          clear hV
          go_wp2_with fail
          refine wp_region_below_tail 22 (by kernel_rfl) (by kernel_rfl) ?_
          simp only [List.take_succ_cons, List.take_zero, List.drop_succ_cons, List.drop_zero]
          repeat (go_big_quiet_step ((go_at_call 48; exact Calls.regrown_of (back_Q _ _ hn2))))
          refine wpQuiet_nil ?_
          intro w2 hb2
          have hS2 := HS.out.call hb2
          clear hb2 r1 r2 r3 r4 r5
          obtain ⟨_, p6, p7⟩ := hS2.row (show i < i + 1 by omega) hlt2
          have hS3 := hS2.set (show i < i + 1 by omega) hlt2 V
          obtain ⟨p8, p9, p10⟩ := hS3.row (show i < i + 1 by omega) hlt2
          rw [setX_at] at p9
          have HS3 := Lib.hid hS3
          clear hS2 hS3
          by_cases hik : i = k
          · have hikb : ((i : Int) == (k : Int)) = true := by simp [hik]
            have HIK := Lib.hid hik
            clear hik
            have hand2 := (set_and V 64 hV8 (by decide)).1
            have e64 : ((64 : Nat) : Int) = 64 := rfl
            rw [e64] at hand2
            clear e64
            go_wp2_with fail
            go_roundw
            case rel =>
              refine ⟨k + 1, by go_num, by omega, R, cp, _, Lib.hid (HS3.out.set (show i < i + 1 by omega) hlt2 (V &&& 64)), Lib.hid fun a l ha hl => ?_, Lib.hid fun l hl => ?_⟩
              · rw [setX_off (by omega), setX_off (by omega)]; exact HX.out a l ha hl
              · by_cases e : l = k
                · subst e; rw [setX_at]; unfold startX; rw [if_pos HIK.out, HV.out]
                · rw [setX_off (by omega), setX_off (by omega)]; exact HK.out l (by omega)
            case measure => simp [intOf]; omega
          · have hikb : ((i : Int) == (k : Int)) = false := by simp; omega
            have HIK := Lib.hid hik
            clear hik
            go_wp2_with fail
            go_roundw
            case rel =>
              refine ⟨k + 1, by go_num, by omega, R, cp, _, HS3, Lib.hid fun a l ha hl => ?_, Lib.hid fun l hl => ?_⟩
              · rw [setX_off (by omega)]; exact HX.out a l ha hl
              · by_cases e : l = k
                · subst e; rw [setX_at]; unfold startX; rw [if_neg HIK.out, HV.out]
                · rw [setX_off (by omega)]; exact HK.out l (by omega)
            case measure => simp [intOf]; omega
        · obtain rfl : n = k := by omega
          go_wp2_with fail
          go_roundw
          case rel =>
            refine ⟨i + 1, by go_num, by omega, R, cp, X, HS, Lib.hid fun a l ha hl => ?_⟩
            by_cases e : a = i
            · subst e; exact HK.out l hl
            · exact HX.out a l (by omega) hl
          case measure => simp [intOf]; omega
    · obtain rfl : n = i := by omega
      have hI := InvP.start HN.out (fun i j hi hj => HX.out i j hi hj)
      have HM0 : Hid (MRel n N w w1.heap.size w1.heap.size T (2 * sumX X n n + 1) true wA) := Lib.hid ⟨R, cp, X, HS.out, hI, fun h => (by cases h), by simp⟩
      obtain ⟨G, hG⟩ : ∃ G, 2 * sumX X n n + 1 = G := ⟨_, rfl⟩
      rw [hG] at HM0
      clear hI HS HX hG
      go_wp2_with fail
      go_loopg [10] G (fun g ag wr => ∃ t : Bool, ag = .bool t ∧ Hid (MRel n N w w1.heap.size w1.heap.size T g t wr))
      case atStart => exact ⟨true, rfl, HM0⟩
      case round =>
        clear HM0
        obtain ⟨t, rfl, HMR⟩ := hrel
        obtain ⟨wC, rfl⟩ : ∃ wo : World, wo = wr := ⟨_, rfl⟩
        cases t with
        | true =>
          obtain ⟨R0, cp0, X0, hS0, hI0, _, hsum⟩ := HMR.out
          have H0 : Hid (SRel n N w w1.heap.size w1.heap.size T (sumX X0 n n) 0 0 0 false wC) := Lib.hid ⟨R0, cp0, X0, hS0, SwR.start hI0⟩
          obtain ⟨S0, hS00⟩ : ∃ S0, sumX X0 n n = S0 := ⟨_, rfl⟩
          rw [hS00] at H0 hsum
          simp only [if_true] at hsum
          clear hS0 hI0 hS00 HMR
          go_wp2_with fail
          go_loopw [10, 78] (fun ag c wr => ∃ (t : Bool) (I : Nat), ag = .bool t ∧ c = .int .i64 (I : Int) ∧ I ≤ n ∧ Hid (SRel n N w w1.heap.size w1.heap.size T S0 I 0 0 t wr)) (fun _ c _ => n - (intOf c).toNat)
          case atStart => exact ⟨false, 0, rfl, rfl, by omega, H0⟩
          case round =>
            clear H0
            obtain ⟨t, I, rfl, rfl, hI, H1⟩ := hrel
            obtain ⟨wD, rfl⟩ : ∃ wo : World, wo = wr := ⟨_, rfl⟩
            by_cases hI2 : I < n
            · have hFd : decide ((I : Int) < (n : Int)) = true := by simp; omega
              go_wp2_with fail
              go_loopw [10, 82] (fun ag c wr => ∃ (t : Bool) (K : Nat), ag = .bool t ∧ c = .int .i64 (K : Int) ∧ K ≤ n ∧ Hid (SRel n N w w1.heap.size w1.heap.size T S0 I K 0 t wr)) (fun _ c _ => n - (intOf c).toNat)
              case atStart => exact ⟨t, 0, rfl, rfl, by omega, H1⟩
              case round =>
                clear H1
                obtain ⟨t, K, rfl, rfl, hK, H1⟩ := hrel
                obtain ⟨wE, rfl⟩ : ∃ wo : World, wo = wr := ⟨_, rfl⟩
                by_cases hK2 : K < n
                · have hFd2 : decide ((K : Int) < (n : Int)) = true := by simp; omega
                  go_wp2_with fail
                  go_loopw [10, 86] (fun ag c wr => ∃ (t : Bool) (J : Nat), ag = .bool t ∧ c = .int .i64 (J : Int) ∧ J ≤ n ∧ Hid (SRel n N w w1.heap.size w1.heap.size T S0 I K J t wr)) (fun _ c _ => n - (intOf c).toNat)
                  case atStart => exact ⟨t, 0, rfl, rfl, by omega, H1⟩
                  case round =>
                    clear H1
                    obtain ⟨t, J, rfl, rfl, hJ, H1⟩ := hrel
                    obtain ⟨wF, rfl⟩ : ∃ wo : World, wo = wr := ⟨_, rfl⟩
                    by_cases hJ2 : J < n
                    · obtain ⟨R, cp, X, hS, hW⟩ := H1.out
                      have i1 : (0 : Int) ≤ (I : Int) := by omega
                      have i2 : (I : Int) < (n : Int) := by omega
                      have k1 : (0 : Int) ≤ (K : Int) := by omega
                      have k2 : (K : Int) < (n : Int) := by omega
                      have j1 : (0 : Int) ≤ (J : Int) := by omega
                      have j2 : (J : Int) < (n : Int) := by omega
                      obtain ⟨p1, p2, _⟩ := hS.row hI2 hJ2
                      obtain ⟨_, p3, _⟩ := hS.row hI2 hK2
                      obtain ⟨p4, p5, _⟩ := hS.row hK2 hJ2
                      have r1 := cell_regrown p1
                      have r2 := cell_regrown p2
                      have r3 := cell_regrown p3
                      have r4 := cell_regrown p4
                      have r5 := cell_regrown p5
                      have h8 := hW.1.1
                      have q1 := h8 I J hI2 hJ2
                      have q2 := h8 I K hI2 hK2
                      have q3 := h8 K J hK2 hJ2
                      obtain ⟨V, hV⟩ : ∃ V, X I J &&& joinN (X I K) (X K J) = V := ⟨_, rfl⟩
                      have hand := (set_and (X I J) (joinN (X I K) (X K J)) q1 (joinN_lt _ _)).1
                      rw [hV] at hand
                      have HV := Lib.hid hV
                      have HS := Lib.hid hS
                      have HW := Lib.hid hW
                      have HQ := Lib.hid (And.intro q2 q3)
                      clear p1 p2 p3 p4 p5 h8 q1 q2 q3 hV hS hW
                      go_wp2_with fail
                      refine wp_region_below (by kernel_rfl) (by kernel_rfl) ?_
                      repeat (go_big_quiet_step ((go_at_call 47; exact Calls.regrown_of (tjoin_Q T (X I K) (X K J) _ HQ.out.1 HQ.out.2 (HS.out.2.2.1.call (below_regrown _ _ _))))))
                      refine wpQuiet_nil ?_
                      intro w2 hb2
                      have hS2 := HS.out.call hb2
                      clear hb2 r1 r2 r3 r4 r5
                      obtain ⟨p1, p2, p3⟩ := hS2.row hI2 hJ2
                      have HS2 := Lib.hid hS2
                      clear hS2
                      by_cases hsame : V = X I J
                      · have hne : ((V : Int) != (X I J : Int)) = false := by simp [hsame]
                        have HSAME := Lib.hid (HV.out.trans hsame)
                        clear hsame
                        go_wp2_with fail
                        go_roundw
                        case rel => exact ⟨t, J + 1, rfl, by go_num, by omega, Lib.hid ⟨R, cp, X, HS2.out, HW.out.same HSAME.out⟩⟩
                        case measure => simp [intOf]; omega
                      · have hne : ((V : Int) != (X I J : Int)) = true := by simp; omega
                        have HNE := Lib.hid (fun h : X I J &&& joinN (X I K) (X K J) = X I J => hsame (HV.out.symm.trans h))
                        clear hsame
                        go_wp2_with fail
                        go_roundw
                        case rel =>
                          have hw := HW.out.less hI2 hK2 hJ2 HNE.out
                          rw [HV.out] at hw
                          exact ⟨true, J + 1, rfl, by go_num, by omega, Lib.hid ⟨R, cp, _, HS2.out.set hI2 hJ2 V, hw⟩⟩
                        case measure => simp [intOf]; omega
                    · obtain rfl : n = J := by omega
                      go_wp2_with fail
                      go_roundw
                      case rel =>
                        obtain ⟨R, cp, X, hS, hW⟩ := H1.out
                        exact ⟨t, K + 1, rfl, by go_num, by omega, Lib.hid ⟨R, cp, X, hS, hW.row⟩⟩
                      case measure => simp [intOf]; omega
                · obtain rfl : n = K := by omega
                  go_wp2_with fail
                  go_roundw
                  case rel =>
                    obtain ⟨R, cp, X, hS, hW⟩ := H1.out
                    exact ⟨t, I + 1, rfl, by go_num, by omega, Lib.hid ⟨R, cp, X, hS, hW.sheet⟩⟩
                  case measure => simp [intOf]; omega
            · obtain rfl : n = I := by omega
              obtain ⟨R, cp, X, hS, hW⟩ := H1.out
              have hnew : MRel n N w w1.heap.size w1.heap.size T (gk - 1) t wD ∧ gk - 1 < gk := by
                refine ⟨⟨R, cp, X, hS, hW.1, fun h => (by subst h; exact hW.closed), ?_⟩, by omega⟩
                cases t with
                | false => have := (hW.2.1 rfl).1; simp; omega
                | true => have := hW.2.2 rfl; simp; omega
              have HNEW := Lib.hid hnew
              clear hnew hS hW H1
              go_wp2_with fail
              go_roundg (gk - 1)
              case measure => exact HNEW.out.2
              case rel => exact ⟨t, rfl, Lib.hid HNEW.out.1⟩
        | false =>
          obtain ⟨R, cp, X, hS, hI0, hcl, _⟩ := HMR.out
          have HTOP := Lib.hid (hI0.done (hcl rfl))
          have HS := Lib.hid hS
          clear hS hI0 hcl HMR
          go_wp2_with fail
          go_loop [133] (fun c => ∃ i : Nat, c = .int .i64 (i : Int) ∧ i ≤ n ∧ Hid (∀ a k, a < i → k < n → X a k ≠ 0)) (fun c => n - (intOf c).toNat)
          case atStart => exact ⟨0, rfl, by omega, Lib.hid fun a k ha => absurd ha (Nat.not_lt_zero a)⟩
          case round =>
            obtain ⟨i, rfl, hi, HZ⟩ := hrel
            by_cases hlt : i < n
            · have hFd : decide ((i : Int) < (n : Int)) = true := by simp; omega
              go_wp2_with fail
              go_loop [137] (fun c => ∃ k : Nat, c = .int .i64 (k : Int) ∧ k ≤ n ∧ Hid (∀ l, l < k → X i l ≠ 0)) (fun c => n - (intOf c).toNat)
              case atStart => exact ⟨0, rfl, by omega, Lib.hid fun l hl => absurd hl (Nat.not_lt_zero l)⟩
              case round =>
                obtain ⟨k, rfl, hk, HK⟩ := hrel
                by_cases hlt2 : k < n
                · have i1 : (0 : Int) ≤ (i : Int) := by omega
                  have i2 : (i : Int) < (n : Int) := by omega
                  have k1 : (0 : Int) ≤ (k : Int) := by omega
                  have k2 : (k : Int) < (n : Int) := by omega
                  obtain ⟨p1, p2, _⟩ := HS.out.row hlt hlt2
                  by_cases hz : X i k = 0
                  · have HZ0 := Lib.hid hz
                    rw [hz] at p2
                    clear hz
                    go_wp2_with fail
                    go_ret2
                    exact ⟨X, HTOP.out, .inl ⟨⟨i, k, hlt, hlt2, HZ0.out⟩, rfl⟩, HS.out.2.2.2.1⟩
                  · have hzb : ((X i k : Int) == 0) = false := by simp; omega
                    have HZ0 := Lib.hid hz
                    clear hz
                    go_wp2_with fail
                    go_round
                    case rel =>
                      refine ⟨k + 1, by go_num, by omega, Lib.hid fun l hl => ?_⟩
                      by_cases e : l = k
                      · subst e; exact HZ0.out
                      · exact HK.out l (by omega)
                    case measure => simp [intOf]; omega
                · obtain rfl : n = k := by omega
                  go_wp2_with fail
                  go_round
                  case rel =>
                    refine ⟨i + 1, by go_num, by omega, Lib.hid fun a l ha hl => ?_⟩
                    by_cases e : a = i
                    · subst e; exact HK.out l hl
                    · exact HZ.out a l (by omega) hl
                  case measure => simp [intOf]; omega
            · obtain rfl : n = i := by omega
              go_wp2_with fail
              go_ret2
              exact ⟨X, HTOP.out, .inr ⟨fun i k hi hk => HZ.out i k hi hk, _, R, cp, rfl, HS.out.1.low HS.out.2.2.2.2.2⟩, HS.out.2.2.2.1⟩
end Go.Proofs.YtpmppgmnnnlonaaDoor
