/- The laws' own same and samePart. -/
import Derived.Test.YtidgahnamdhflaaDoorPsxO
namespace Go.Proofs.YtidgahnamdhflaaDoor
open Go.RowKit Go.Shelf Fld Prt Psx
/-- A []string, wherever it lies. -/
def SL (w : World) (v : Value) (L : List ByteArray) : Prop :=
  ∃ oa cap, v = .slice oa L.length cap ∧ (0 < L.length → ∃ a, oa = some a ∧ a.block < w.heap.size ∧ ∀ i, i < L.length → w.cell? (a.add i) = some (.string (L.getD i ⟨#[]⟩)))
theorem SL.call {w w' : World} {v : Value} {L : List ByteArray} (h : SL w v L) (hb : Below w.heap.size w w') : SL w' v L := by
  obtain ⟨oa, cap, h1, h2⟩ := h
  refine ⟨oa, cap, h1, fun h0 => ?_⟩
  obtain ⟨a, g1, g2, g3⟩ := h2 h0
  exact ⟨a, g1, Nat.lt_of_lt_of_le g2 hb.size, fun i hi => (hb.cell (p := a.add i) (by rw [padd_block]; exact g2)).trans (g3 i hi)⟩
theorem SL.of_q {S : Nat → Prop} {w : World} {v : Value} {L : List ByteArray} (h : QStr S w v L) (hS : ∀ b, S b → b < w.heap.size) : SL w v L := by
  obtain ⟨oa, cap, h1, h2, h3⟩ := h
  refine ⟨oa, cap, h1, fun h0 => ?_⟩
  obtain ⟨a, rfl⟩ := h2 h0
  exact ⟨a, rfl, hS _ (h3 a rfl h0).1.1, (h3 a rfl h0).2⟩
theorem SL.of_v {B : Nat} {w : World} {v : Value} {L : List ByteArray} (h : VStr B w v L) (hB : B ≤ w.heap.size) : SL w v L := by
  obtain ⟨oa, cap, h1, h2, h3⟩ := h
  refine ⟨oa, cap, h1, fun h0 => ?_⟩
  obtain ⟨a, rfl⟩ := h2 h0
  exact ⟨a, rfl, Nat.lt_of_lt_of_le ((h3 a rfl).1 h0) hB, (h3 a rfl).2⟩
theorem VLn.form {B : Nat} {w : World} {v : Value} {L : List Ln} (h : VLn B w v L) : ∃ oa cap, v = .slice oa L.length cap := by
  obtain ⟨oa, cap, h1, _⟩ := h; exact ⟨oa, cap, h1⟩
theorem VPrm.form {B : Nat} {w : World} {v : Value} {L : List Prm} (h : VPrm B w v L) : ∃ oa cap, v = .slice oa L.length cap := by
  obtain ⟨oa, cap, h1, _⟩ := h; exact ⟨oa, cap, h1⟩
set_option maxRecDepth 100000 in
set_option maxHeartbeats 4000000 in
theorem sameK_any (v1 v2 : Value) (l : List ByteArray) (w : World) (hl : l.length ≤ 100000000) (h1 : SL w v1 l) (h2 : SL w v2 l) :
    Calls Tryd.prog 15 #[v1, v2] w fun e w' => e = .returned (.bool true) ∧ Below w.heap.size w w' := by
  obtain ⟨o1, c1, rfl, -⟩ := id h1
  obtain ⟨o2, c2, rfl, -⟩ := id h2
  obtain ⟨n, hn⟩ : ∃ x, l.length = x := ⟨_, rfl⟩
  rw [hn] at hl h1 h2 ⊢
  have H1 := Lib.hid h1
  have H2 := Lib.hid h2
  have HN := Lib.hid hn
  clear h1 h2 hn
  have hnb : ((n : Int) != (n : Int)) = false := by simp
  go_enter Tryd.func15, Tryd.ntmps15
  go_wp2_with fail
  go_loopw [5] (fun c wr => ∃ k : Nat, c = .int .i64 (k : Int) ∧ k ≤ n ∧ Hid (Below w.heap.size w wr)) (fun c _ => n - (intOf c).toNat)
  case atStart => exact ⟨0, rfl, by omega, Lib.hid (Below.refl _ _)⟩
  case round =>
    obtain ⟨k, rfl, hk, HB⟩ := hrel
    by_cases hkn : k < n
    · have hkl : k < l.length := by rw [HN.out]; exact hkn
      obtain ⟨q1, d1, e1, g1⟩ := H1.out.call HB.out
      obtain ⟨q2, d2, e2, g2⟩ := H2.out.call HB.out
      obtain ⟨a1, f1, -, p1⟩ := g1 (by omega)
      obtain ⟨a2, f2, -, p2⟩ := g2 (by omega)
      injection e1 with e1 _ _
      injection e2 with e2 _ _
      subst e1
      subst e2
      subst f1
      subst f2
      replace p1 := p1 k hkl
      replace p2 := p2 k hkl
      obtain ⟨F, hF⟩ : ∃ x : ByteArray, l.getD k ⟨#[]⟩ = x := ⟨_, rfl⟩
      rw [hF] at p1 p2
      have r1 := cell_regrown p1
      have r2 := cell_regrown p2
      have k1 : (0 : Int) ≤ (k : Int) := by omega
      have k2 : (k : Int) < (n : Int) := by omega
      clear hF p1 p2
      go_wp2_with fail
      refine wp_region_below (by kernel_rfl) (by kernel_rfl) ?_
      repeat (go_big_quiet_step (fail))
      refine wpQuiet_nil ?_
      intro w1 hb1
      have HB1 := Lib.hid (thenB HB.out hb1)
      clear hb1 r1 r2
      go_wp2_with fail
      go_roundw
      case rel => exact ⟨k + 1, by go_num, by omega, HB1⟩
      case measure => simp [intOf]; omega
    · go_wp2_with fail
      go_ret
      exact ⟨rfl, HB.out⟩
/-- What samePart is asked. -/
def SmK (B k : Nat) : Prop := ∀ (p : Part) (w : World) (S1 : Nat → Prop) (B2 : Nat) (u1 v1 u2 v2 : Value), PtB B k p → QPart S1 k w u1 v1 p → PartR B2 k w u2 v2 p → (∀ b, S1 b → b < w.heap.size) → B2 ≤ w.heap.size → Calls Tryd.prog 16 #[.agg #[.string p.name, u1, v1], .agg #[.string p.name, u2, v2]] w fun e w' => e = .returned (.bool true) ∧ Below w.heap.size w w'
set_option maxRecDepth 100000 in
set_option maxHeartbeats 4000000 in
theorem samePartK_step (B k : Nat) (hB : B ≤ 1048576) (ih : SmK B k) : SmK B (k + 1) := by
  intro p w S1 B2 u1 v1 u2 v2 hp h1 h2 s1 s2
  obtain ⟨b1, b2, b3, b4⟩ := hp
  have q1 := h1
  have q2 := h2
  obtain ⟨l1, ov1, cv1, rfl, -⟩ := q1
  obtain ⟨l2, ov2, cv2, rfl, -⟩ := q2
  obtain ⟨ou1, cu1, rfl⟩ := l1.form
  obtain ⟨ou2, cu2, rfl⟩ := l2.form
  obtain ⟨n, hn⟩ : ∃ x, p.lines.length = x := ⟨_, rfl⟩
  obtain ⟨m, hm⟩ : ∃ x, p.parts.length = x := ⟨_, rfl⟩
  obtain ⟨nm, hnm⟩ : ∃ x, p.name = x := ⟨_, rfl⟩
  have HN := Lib.hid hn
  have HM := Lib.hid hm
  rw [hn] at h1 h2 l1 l2 b1 ⊢
  rw [hm] at h1 h2 b2 ⊢
  rw [hnm]
  have H1 := Lib.hid h1
  have H2 := Lib.hid h2
  have L1 := Lib.hid l1
  have L2 := Lib.hid l2
  have HS1 := Lib.hid s1
  have HS2 := Lib.hid s2
  have B3 := Lib.hid b3
  have B4 := Lib.hid b4
  have IH := Lib.hid ih
  clear h1 h2 l1 l2 s1 s2 b3 b4 ih hn hm hnm
  go_enter Tryd.func16, Tryd.ntmps16
  go_wp2_with fail
  obtain ⟨wB, hwB⟩ : ∃ x, (w.alloc (.cells #[.string nm, .slice ou1 n cu1, .slice ov1 m cv1] 25)).alloc (.cells #[.string nm, .slice ou2 n cu2, .slice ov2 m cv2] 25) = x := ⟨_, rfl⟩
  have HBB : Hid (Below w.heap.size w wB) := Lib.hid (by rw [← hwB]; exact ((Below.refl _ _).alloc (Nat.le_refl _) _).alloc (by simp) _)
  rw [hwB]
  have HC1 : Hid (∀ wx, Below wB.heap.size wB wx → (w.heap.size < wx.heap.size ∧ w.heap.size + 1 < wx.heap.size) ∧ wx.cell? ⟨w.heap.size, 1, none⟩ = some (.slice ou1 n cu1) ∧ wx.cell? ⟨w.heap.size, 2, none⟩ = some (.slice ov1 m cv1) ∧ wx.cell? ⟨w.heap.size + 1, 1, none⟩ = some (.slice ou2 n cu2) ∧ wx.cell? ⟨w.heap.size + 1, 2, none⟩ = some (.slice ov2 m cv2)) := Lib.hid (by
    intro wx hb
    rw [← hwB] at hb
    exact ⟨⟨Nat.lt_of_lt_of_le (by simp; omega) hb.size, Nat.lt_of_lt_of_le (by simp) hb.size⟩, (hb.cell (p := ⟨w.heap.size, 1, none⟩) (by simp; omega)).trans (by simp), (hb.cell (p := ⟨w.heap.size, 2, none⟩) (by simp; omega)).trans (by simp), (hb.cell (p := ⟨w.heap.size + 1, 1, none⟩) (by simp)).trans (by simp), (hb.cell (p := ⟨w.heap.size + 1, 2, none⟩) (by simp)).trans (by simp)⟩)
  clear hwB
  go_loopw [5] (fun c wr => ∃ i : Nat, c = .int .i64 (i : Int) ∧ i ≤ n ∧ Hid (Below wB.heap.size wB wr)) (fun c _ => n - (intOf c).toNat)
  case atStart => exact ⟨0, rfl, by omega, Lib.hid (Below.refl _ _)⟩
  case round =>
    obtain ⟨i, rfl, hi, HB⟩ := hrel
    obtain ⟨wA, rfl⟩ : ∃ wo : World, wo = wr := ⟨_, rfl⟩
    have HBA : Hid (Below w.heap.size w wA) := Lib.hid (HBB.out.trans (HB.out.mono HBB.out.size))
    obtain ⟨⟨f1, f2⟩, c1, c2, c3, c4⟩ := HC1.out _ HB.out
    by_cases hin : i < n
    · obtain ⟨g1, rfl, ⟨t1, e1⟩, p1, ⟨x1, p2, X1⟩, p3⟩ := (L1.out.call HS1.out HBA.out).at (show i < p.lines.length by rw [HN.out]; exact hin)
      obtain ⟨g2, rfl, t2, p4, ⟨x2, p5, X2⟩, p6⟩ := (L2.out.call (HBA.out.mono HS2.out)).at (show i < p.lines.length by rw [HN.out]; exact hin)
      have k1 : (0 : Int) ≤ (i : Int) := by omega
      have k2 : (i : Int) < (n : Int) := by omega
      have t3 : g1.block < wA.heap.size := Nat.lt_of_lt_of_le (HS1.out _ t1) HBA.out.size
      have t4 : g2.block < wA.heap.size := Nat.lt_of_lt_of_le t2 (Nat.le_trans HS2.out HBA.out.size)
      have t5 : (g2.add (i * 3)).block < wA.heap.size := by rw [padd_block]; exact t4
      obtain ⟨r1, hr1⟩ : ∃ r, g1.block = r := ⟨_, rfl⟩
      rw [hr1] at e1 t3
      subst e1
      simp only [Addr.add_lit, Nat.zero_add] at p1 p2 p3
      clear hr1 t1 t2
      obtain ⟨ox1, cx1, rfl⟩ := X1.form
      obtain ⟨ox2, cx2, rfl⟩ := X2.form
      have hx1 := Lib.hid X1
      have hx2 := Lib.hid X2
      clear X1 X2
      go_upto_region 6 with fail
      go_cut [6, 7] from 40 to 49 (fun p6 p7 wx => ∃ z1 z2 : Nat, p6 = .pointer (some ⟨z1, 0, none⟩) ∧ p7 = .pointer (some ⟨z2, 0, none⟩) ∧ Hid (Below wA.heap.size wA wx) ∧ Hid (z1 < wx.heap.size ∧ z2 < wx.heap.size) ∧ Hid (wx.cell? ⟨z1, 0, none⟩ = some (.string (p.lines.getD i ln0).name) ∧ wx.cell? ⟨z1, 1, none⟩ = some (.slice ox1 (p.lines.getD i ln0).prms.length cx1) ∧ wx.cell? ⟨z1, 2, none⟩ = some (.string (p.lines.getD i ln0).value)) ∧ Hid (wx.cell? ⟨z2, 0, none⟩ = some (.string (p.lines.getD i ln0).name) ∧ wx.cell? ⟨z2, 1, none⟩ = some (.slice ox2 (p.lines.getD i ln0).prms.length cx2) ∧ wx.cell? ⟨z2, 2, none⟩ = some (.string (p.lines.getD i ln0).value)))
      case first =>
        go_region
        all_goals
          go_wp2_with fail
          go_meet
          first
            | exact ⟨wA.heap.size, wA.heap.size + 1, rfl, rfl, Lib.hid (below_drew (((Below.refl _ _).alloc (Nat.le_refl _) _).alloc (by simp) _)), Lib.hid (by simp [World.drew] <;> omega), Lib.hid (by simp), Lib.hid (by simp; done)⟩
            | exact ⟨wA.heap.size + 1, wA.heap.size, rfl, rfl, Lib.hid (below_drew (((Below.refl _ _).alloc (Nat.le_refl _) _).alloc (by simp) _)), Lib.hid (by simp [World.drew] <;> omega), Lib.hid (by simp), Lib.hid (by simp; done)⟩
      case rest =>
        obtain ⟨z1, z2, rfl, rfl, HBx, HZ, HA1, HA2⟩ := hcut
        obtain ⟨d1, d2, d3⟩ := HA1.out
        obtain ⟨d4, d5, d6⟩ := HA2.out
        obtain ⟨y1, y2⟩ := HZ.out
        obtain ⟨N, hN⟩ : ∃ x, (p.lines.getD i ln0).prms.length = x := ⟨_, rfl⟩
        have hmem : p.lines.getD i ln0 ∈ p.lines := mem_getD _ _ (by rw [HN.out]; exact hin)
        have hlb := B3.out _ hmem
        have hNb : N ≤ 1048577 := by have := hlb.1; omega
        have HLB := Lib.hid hlb.2
        have HNN := Lib.hid hN
        rw [hN] at hx1 hx2 d2 d5
        have hb1 : ∀ b, S1 b → b < wA.heap.size := fun b h => Nat.lt_of_lt_of_le (HS1.out b h) HBA.out.size
        have hb2 : B2 ≤ wA.heap.size := Nat.le_trans HS2.out HBA.out.size
        have HSA1 := Lib.hid hb1
        have HSA2 := Lib.hid hb2
        clear hlb hmem hN HA1 HA2 hb1 hb2 p1 p2 p3 p4 p5 p6 c1 c2 c3 c4
        go_wp2_with fail
        go_loopw [8] (fun c wr => ∃ k : Nat, c = .int .i64 (k : Int) ∧ k ≤ N ∧ Hid (Below wc.heap.size wc wr)) (fun c _ => N - (intOf c).toNat)
        case atStart => exact ⟨0, rfl, by omega, Lib.hid (Below.refl _ _)⟩
        case round =>
          obtain ⟨j, rfl, hj, HBj⟩ := hrel
          obtain ⟨wD, rfl⟩ : ∃ wo : World, wo = wr := ⟨_, rfl⟩
          have HBD : Hid (Below wA.heap.size wA wD) := Lib.hid (thenB HBx.out HBj.out)
          have b2' := (HBj.out.cell (p := ⟨z1, 1, none⟩) y1).trans d2
          have b5' := (HBj.out.cell (p := ⟨z2, 1, none⟩) y2).trans d5
          clear d1 d2 d3 d4 d5 d6
          by_cases hjn : j < N
          · have hjl : j < (p.lines.getD i ln0).prms.length := by rw [HNN.out]; exact hjn
            obtain ⟨q1, rfl, ⟨-, e1⟩, p1, x1, p2, X1⟩ := (hx1.out.call HSA1.out HBD.out).at hjl
            obtain ⟨q2, rfl, t2, p3, x2, p4, X2⟩ := (hx2.out.call (HBD.out.mono HSA2.out)).at hjl
            obtain ⟨r3, hr3⟩ : ∃ r, q1.block = r := ⟨_, rfl⟩
            rw [hr3] at e1
            subst e1
            simp only [Addr.add_lit, Nat.zero_add] at p1 p2
            obtain ⟨F, hF⟩ : ∃ x, ((p.lines.getD i ln0).prms.getD j prm0).name = x := ⟨_, rfl⟩
            rw [hF] at p1 p3
            have hvl : ((p.lines.getD i ln0).prms.getD j prm0).vals.length ≤ 100000000 := by have := HLB.out _ (mem_getD _ prm0 hjl); omega
            have CLs : Hid (∀ w0, Below wD.heap.size wD w0 → Calls Tryd.prog 15 #[x1, x2] w0 fun e w' => e = .returned (.bool true) ∧ Below w0.heap.size w0 w') := Lib.hid fun w0 hb => sameK_any x1 x2 _ w0 hvl (SL.of_q (X1.call (fun b h => Nat.lt_of_lt_of_le (HSA1.out b h) HBD.out.size) hb) (fun b h => Nat.lt_of_lt_of_le (Nat.lt_of_lt_of_le (HSA1.out b h) HBD.out.size) hb.size)) (SL.of_v (X2.call (hb.mono (Nat.le_trans HSA2.out HBD.out.size))) (Nat.le_trans (Nat.le_trans HSA2.out HBD.out.size) hb.size))
            obtain ⟨o3, c3, rfl⟩ := X1.len
            obtain ⟨o4, c4, rfl, -⟩ := X2
            have k1 : (0 : Int) ≤ (j : Int) := by omega
            have k2 : (j : Int) < (N : Int) := by omega
            have g1 := cell_regrown b2'
            have g2 := cell_regrown b5'
            have g3 := cell_regrown p1
            have g4 := cell_regrown p2
            have g5 := cell_regrown p3
            have g6 := cell_regrown p4
            clear hF X1 hvl hjl hr3 p1 p2 p3 p4
            go_wp2_with fail
            refine wp_region_below (by kernel_rfl) (by kernel_rfl) ?_
            repeat (go_big_quiet_step ((go_at_call 15; exact Calls.regrown_of (CLs.out _ (below_regrown _ _ _)))))
            refine wpQuiet_nil ?_
            intro w7 hb7
            have HB7 := Lib.hid (thenB HBj.out hb7)
            clear hb7 g1 g2 g3 g4 g5 g6
            go_wp2_with fail
            go_roundw
            case rel => exact ⟨j + 1, by go_num, by omega, HB7⟩
            case measure => simp [intOf]; omega
          · go_wp2_with fail
            go_roundw
            case rel => exact ⟨i + 1, by go_num, by omega, Lib.hid (thenB HB.out HBD.out)⟩
            case measure => simp [intOf]; omega
    · go_wp2_with fail
      go_loopw [9] (fun c wr => ∃ j : Nat, c = .int .i64 (j : Int) ∧ j ≤ m ∧ Hid (Below wB.heap.size wB wr)) (fun c _ => m - (intOf c).toNat)
      case atStart => exact ⟨0, rfl, by omega, HB⟩
      case round =>
        clear c1 c2 c3 c4
        obtain ⟨j, rfl, hj, HBj⟩ := hrel
        obtain ⟨wD, rfl⟩ : ∃ wo : World, wo = wr := ⟨_, rfl⟩
        have HBD : Hid (Below w.heap.size w wD) := Lib.hid (HBB.out.trans (HBj.out.mono HBB.out.size))
        obtain ⟨-, -, c2, -, c4⟩ := HC1.out _ HBj.out
        by_cases hjm : j < m
        · have hjl : j < p.parts.length := by rw [HM.out]; exact hjm
          obtain ⟨q1, rfl, ⟨-, e1⟩, p1, x1, x2, p2, p3, X1⟩ := (H1.out.call HS1.out HBD.out).kid hjl
          obtain ⟨q2, rfl, t2, p4, x3, x4, p5, p6, X2⟩ := (H2.out.call (HBD.out.mono HS2.out)).at hjl
          obtain ⟨r3, hr3⟩ : ∃ r, q1.block = r := ⟨_, rfl⟩
          rw [hr3] at e1
          subst e1
          simp only [Addr.add_lit, Nat.zero_add] at p1 p2 p3
          have CK : Hid (∀ w0, Below wD.heap.size wD w0 → Calls Tryd.prog 16 #[.agg #[.string (p.parts.getD j part0).name, x1, x2], .agg #[.string (p.parts.getD j part0).name, x3, x4]] w0 fun e w' => e = .returned (.bool true) ∧ Below w0.heap.size w0 w') := Lib.hid fun w0 hb => IH.out _ w0 S1 B2 x1 x2 x3 x4 (B4.out _ (mem_getD _ _ hjl)) (X1.call (fun b h => Nat.lt_of_lt_of_le (HS1.out b h) HBD.out.size) hb) (X2.call (hb.mono (Nat.le_trans HS2.out HBD.out.size))) (fun b h => Nat.lt_of_lt_of_le (Nat.lt_of_lt_of_le (HS1.out b h) HBD.out.size) hb.size) (Nat.le_trans (Nat.le_trans HS2.out HBD.out.size) hb.size)
          obtain ⟨⟨o1, n1, k1, rfl⟩, o2, n2, k2, rfl⟩ := X1.form
          obtain ⟨⟨o3, k3, rfl⟩, o4, k4, rfl⟩ := X2.forms
          obtain ⟨F, hF⟩ : ∃ x, (p.parts.getD j part0).name = x := ⟨_, rfl⟩
          rw [hF] at p1 p4 CK
          have j1 : (0 : Int) ≤ (j : Int) := by omega
          have j2 : (j : Int) < (m : Int) := by omega
          have g1 := cell_regrown c2
          have g2 := cell_regrown c4
          have g3 := cell_regrown p1
          have g4 := cell_regrown p2
          have g5 := cell_regrown p3
          have g6 := cell_regrown p4
          have g7 := cell_regrown p5
          have g8 := cell_regrown p6
          clear hF X1 X2 hjl hr3 p1 p2 p3 p4 p5 p6
          go_wp2_with fail
          refine wp_region_below (by kernel_rfl) (by kernel_rfl) ?_
          repeat (go_big_quiet_step ((go_at_call 16; exact Calls.regrown_of (CK.out _ (below_regrown _ _ _)))))
          refine wpQuiet_nil ?_
          intro w7 hb7
          have HB7 := Lib.hid (thenB HBj.out hb7)
          clear hb7 g1 g2 g3 g4 g5 g6 g7 g8
          go_wp2_with fail
          go_roundw
          case rel => exact ⟨j + 1, by go_num, by omega, HB7⟩
          case measure => simp [intOf]; omega
        · go_wp2_with fail
          go_ret
          exact ⟨rfl, HBD.out⟩
/-- samePart of a part that was made and one that came in, which hold the same. -/
theorem samePartK_any (B : Nat) (hB : B ≤ 1048576) : ∀ k, SmK B k := by
  intro k
  induction k with
  | zero => intro p w S1 B2 u1 v1 u2 v2 hp; exact hp.elim
  | succ k ih => exact samePartK_step B k hB ih
end Go.Proofs.YtidgahnamdhflaaDoor
