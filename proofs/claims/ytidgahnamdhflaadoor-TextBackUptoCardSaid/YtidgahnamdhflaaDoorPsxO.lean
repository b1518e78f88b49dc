/- SamePart of two parts that were made and hold the same. -/
import Derived.Test.YtidgahnamdhflaaDoorPsxM
import Derived.Test.YtidgahnamdhflaaDoorPsxN
import Derived.Test.YtidgahnamdhflaaDoorQTail
import Derived.Test.YtidgahnamdhflaaDoorPsxJ
import Derived.Outline
import Derived.BigQuiet
namespace Go.Proofs.YtidgahnamdhflaaDoor
open Go.RowKit Go.Shelf Fld Prt Psx
theorem QLn.at {S : Nat → Prop} {w : World} {oa : Option Addr} {n cap : Nat} {L : List Ln} (h : QLn S w (.slice oa n cap) L) {k : Nat} (hk : k < L.length) : ∃ a, oa = some a ∧ (S a.block ∧ a = ⟨a.block, 0, none⟩) ∧ w.cell? (a.add (k * 3)) = some (.string (L.getD k ln0).name) ∧ (∃ u, w.cell? ((a.add (k * 3)).add 1) = some u ∧ QPrm S w u (L.getD k ln0).prms) ∧ w.cell? ((a.add (k * 3)).add 2) = some (.string (L.getD k ln0).value) := by
  obtain ⟨ob, c, e, h1, h2⟩ := h
  injection e with e1 e2 e3
  subst e1
  obtain ⟨a, rfl⟩ := h1 (by omega)
  obtain ⟨g1, g2⟩ := h2 a rfl (by omega)
  exact ⟨a, rfl, g1, g2 k hk⟩
theorem QPrm.at {S : Nat → Prop} {w : World} {oa : Option Addr} {n cap : Nat} {L : List Prm} (h : QPrm S w (.slice oa n cap) L) {k : Nat} (hk : k < L.length) : ∃ a, oa = some a ∧ (S a.block ∧ a = ⟨a.block, 0, none⟩) ∧ w.cell? (a.add (k * 2)) = some (.string (L.getD k prm0).name) ∧ ∃ u, w.cell? ((a.add (k * 2)).add 1) = some u ∧ QStr S w u (L.getD k prm0).vals := by
  obtain ⟨ob, c, e, h1, h2⟩ := h
  injection e with e1 e2 e3
  subst e1
  obtain ⟨a, rfl⟩ := h1 (by omega)
  obtain ⟨g1, g2⟩ := h2 a rfl (by omega)
  exact ⟨a, rfl, g1, g2 k hk⟩
theorem QLn.call {S : Nat → Prop} {w w' : World} {v : Value} {L : List Ln} (h : QLn S w v L) (hS : ∀ b, S b → b < w.heap.size) (hb : Below w.heap.size w w') : QLn S w' v L := h.keep fun b hs => ⟨hs, hb.block b (hS b hs)⟩
theorem QPrm.call {S : Nat → Prop} {w w' : World} {v : Value} {L : List Prm} (h : QPrm S w v L) (hS : ∀ b, S b → b < w.heap.size) (hb : Below w.heap.size w w') : QPrm S w' v L := h.keep fun b hs => ⟨hs, hb.block b (hS b hs)⟩
theorem QPart.call {S : Nat → Prop} {k : Nat} {w w' : World} {u v : Value} {p : Part} (h : QPart S k w u v p) (hS : ∀ b, S b → b < w.heap.size) (hb : Below w.heap.size w w') : QPart S k w' u v p := h.keep fun b hs => ⟨hs, hb.block b (hS b hs)⟩
theorem QPart.kid {S : Nat → Prop} {k : Nat} {w : World} {u : Value} {oa : Option Addr} {n cap : Nat} {p : Part} (h : QPart S (k + 1) w u (.slice oa n cap) p) {i : Nat} (hi : i < p.parts.length) : ∃ a, oa = some a ∧ (S a.block ∧ a = ⟨a.block, 0, none⟩) ∧ w.cell? (a.add (i * 3)) = some (.string (p.parts.getD i part0).name) ∧ ∃ u2 v2, w.cell? ((a.add (i * 3)).add 1) = some u2 ∧ w.cell? ((a.add (i * 3)).add 2) = some v2 ∧ QPart S k w u2 v2 (p.parts.getD i part0) := by
  obtain ⟨h0, ob, c, e, h1, h2⟩ := h
  injection e with e1 e2 e3
  subst e1
  obtain ⟨a, rfl⟩ := h1 (by omega)
  obtain ⟨g1, g2⟩ := h2 a rfl (by omega)
  exact ⟨a, rfl, g1, g2 i hi⟩
theorem mem_getD {α : Type} (l : List α) (d : α) {i : Nat} (h : i < l.length) : l.getD i d ∈ l := by simp [List.getD, h]
/-- What SamePart is asked. -/
def SmC (B k : Nat) : Prop := ∀ (p : Part) (w : World) (S1 S2 : Nat → Prop) (u1 v1 u2 v2 : Value), PtB B k p → QPart S1 k w u1 v1 p → QPart S2 k w u2 v2 p → (∀ b, S1 b → b < w.heap.size) → (∀ b, S2 b → b < w.heap.size) → Calls Tryd.prog 12 #[.agg #[.string p.name, u1, v1], .agg #[.string p.name, u2, v2]] w fun e w' => e = .returned (.bool true) ∧ Below w.heap.size w w'
set_option maxRecDepth 100000 in
set_option maxHeartbeats 4000000 in
theorem samePart_step (B k : Nat) (hB : B ≤ 1048576) (ih : SmC B k) : SmC B (k + 1) := by
  intro p w S1 S2 u1 v1 u2 v2 hp h1 h2 s1 s2
  obtain ⟨b1, b2, b3, b4⟩ := hp
  have q1 := h1
  have q2 := h2
  obtain ⟨l1, ov1, cv1, rfl, -⟩ := q1
  obtain ⟨l2, ov2, cv2, rfl, -⟩ := q2
  obtain ⟨ou1, cu1, rfl⟩ := l1.form
  obtain ⟨ou2, cu2, rfl⟩ := l2.form
  obtain ⟨n, hn⟩ : ∃ x, p.lines.length = x := ⟨_, rfl⟩
  obtain ⟨m, hm⟩ : ∃ x, p.parts.length = x := ⟨_, rfl⟩
  obtain ⟨nm, hnm⟩ : ∃ x, p.name = x := ⟨_, rfl⟩
  have HN := Lib.hid hn
  have HM := Lib.hid hm
  rw [hn] at h1 h2 l1 l2 b1 ⊢
  rw [hm] at h1 h2 b2 ⊢
  rw [hnm]
  have H1 := Lib.hid h1
  have H2 := Lib.hid h2
  have L1 := Lib.hid l1
  have L2 := Lib.hid l2
  have HS1 := Lib.hid s1
  have HS2 := Lib.hid s2
  have B3 := Lib.hid b3
  have B4 := Lib.hid b4
  have IH := Lib.hid ih
  clear h1 h2 l1 l2 s1 s2 b3 b4 ih hn hm hnm
  go_enter Tryd.func12, Tryd.ntmps12
  go_wp2_with fail
  obtain ⟨wB, hwB⟩ : ∃ x, (w.alloc (.cells #[.string nm, .slice ou1 n cu1, .slice ov1 m cv1] 25)).alloc (.cells #[.string nm, .slice ou2 n cu2, .slice ov2 m cv2] 25) = x := ⟨_, rfl⟩
  have HBB : Hid (Below w.heap.size w wB) := Lib.hid (by rw [← hwB]; exact ((Below.refl _ _).alloc (Nat.le_refl _) _).alloc (by simp) _)
  rw [hwB]
  have HC1 : Hid (∀ wx, Below wB.heap.size wB wx → (w.heap.size < wx.heap.size ∧ w.heap.size + 1 < wx.heap.size) ∧ wx.cell? ⟨w.heap.size, 1, none⟩ = some (.slice ou1 n cu1) ∧ wx.cell? ⟨w.heap.size, 2, none⟩ = some (.slice ov1 m cv1) ∧ wx.cell? ⟨w.heap.size + 1, 1, none⟩ = some (.slice ou2 n cu2) ∧ wx.cell? ⟨w.heap.size + 1, 2, none⟩ = some (.slice ov2 m cv2)) := Lib.hid (by
    intro wx hb
    rw [← hwB] at hb
    exact ⟨⟨Nat.lt_of_lt_of_le (by simp; omega) hb.size, Nat.lt_of_lt_of_le (by simp) hb.size⟩, (hb.cell (p := ⟨w.heap.size, 1, none⟩) (by simp; omega)).trans (by simp), (hb.cell (p := ⟨w.heap.size, 2, none⟩) (by simp; omega)).trans (by simp), (hb.cell (p := ⟨w.heap.size + 1, 1, none⟩) (by simp)).trans (by simp), (hb.cell (p := ⟨w.heap.size + 1, 2, none⟩) (by simp)).trans (by simp)⟩)
  clear hwB
  go_loopw [5] (fun c wr => ∃ i : Nat, c = .int .i64 (i : Int) ∧ i ≤ n ∧ Hid (Below wB.heap.size wB wr)) (fun c _ => n - (intOf c).toNat)
  case atStart => exact ⟨0, rfl, by omega, Lib.hid (Below.refl _ _)⟩
  case round =>
    obtain ⟨i, rfl, hi, HB⟩ := hrel
    obtain ⟨wA, rfl⟩ : ∃ wo : World, wo = wr := ⟨_, rfl⟩
    have HBA : Hid (Below w.heap.size w wA) := Lib.hid (HBB.out.trans (HB.out.mono HBB.out.size))
    obtain ⟨⟨f1, f2⟩, c1, c2, c3, c4⟩ := HC1.out _ HB.out
    by_cases hin : i < n
    · obtain ⟨g1, rfl, ⟨t1, e1⟩, p1, ⟨x1, p2, X1⟩, p3⟩ := (L1.out.call HS1.out HBA.out).at (show i < p.lines.length by rw [HN.out]; exact hin)
      obtain ⟨g2, rfl, ⟨t2, e2⟩, p4, ⟨x2, p5, X2⟩, p6⟩ := (L2.out.call HS2.out HBA.out).at (show i < p.lines.length by rw [HN.out]; exact hin)
      have k1 : (0 : Int) ≤ (i : Int) := by omega
      have k2 : (i : Int) < (n : Int) := by omega
      have t3 : g1.block < wA.heap.size := Nat.lt_of_lt_of_le (HS1.out _ t1) HBA.out.size
      have t4 : g2.block < wA.heap.size := Nat.lt_of_lt_of_le (HS2.out _ t2) HBA.out.size
      obtain ⟨r1, hr1⟩ : ∃ r, g1.block = r := ⟨_, rfl⟩
      obtain ⟨r2, hr2⟩ : ∃ r, g2.block = r := ⟨_, rfl⟩
      rw [hr1] at e1 t3
      rw [hr2] at e2 t4
      subst e1
      subst e2
      simp only [Addr.add_lit, Nat.zero_add] at p1 p2 p3 p4 p5 p6
      clear hr1 hr2 t1 t2
      obtain ⟨ox1, cx1, rfl⟩ := X1.form
      obtain ⟨ox2, cx2, rfl⟩ := X2.form
      have hx1 := Lib.hid X1
      have hx2 := Lib.hid X2
      clear X1 X2
      go_upto_region 6 with fail
      go_cut [6, 7] from 40 to 49 (fun p6 p7 wx => ∃ z1 z2 : Nat, p6 = .pointer (some ⟨z1, 0, none⟩) ∧ p7 = .pointer (some ⟨z2, 0, none⟩) ∧ Hid (Below wA.heap.size wA wx) ∧ Hid (z1 < wx.heap.size ∧ z2 < wx.heap.size) ∧ Hid (wx.cell? ⟨z1, 0, none⟩ = some (.string (p.lines.getD i ln0).name) ∧ wx.cell? ⟨z1, 1, none⟩ = some (.slice ox1 (p.lines.getD i ln0).prms.length cx1) ∧ wx.cell? ⟨z1, 2, none⟩ = some (.string (p.lines.getD i ln0).value)) ∧ Hid (wx.cell? ⟨z2, 0, none⟩ = some (.string (p.lines.getD i ln0).name) ∧ wx.cell? ⟨z2, 1, none⟩ = some (.slice ox2 (p.lines.getD i ln0).prms.length cx2) ∧ wx.cell? ⟨z2, 2, none⟩ = some (.string (p.lines.getD i ln0).value)))
      case first =>
        go_region
        all_goals
          go_wp2_with fail
          go_meet
          first
            | exact ⟨wA.heap.size, wA.heap.size + 1, rfl, rfl, Lib.hid (below_drew (((Below.refl _ _).alloc (Nat.le_refl _) _).alloc (by simp) _)), Lib.hid (by simp [World.drew] <;> omega), Lib.hid (by simp), Lib.hid (by simp; done)⟩
            | exact ⟨wA.heap.size + 1, wA.heap.size, rfl, rfl, Lib.hid (below_drew (((Below.refl _ _).alloc (Nat.le_refl _) _).alloc (by simp) _)), Lib.hid (by simp [World.drew] <;> omega), Lib.hid (by simp), Lib.hid (by simp; done)⟩
      case rest =>
        obtain ⟨z1, z2, rfl, rfl, HBx, HZ, HA1, HA2⟩ := hcut
        obtain ⟨d1, d2, d3⟩ := HA1.out
        obtain ⟨d4, d5, d6⟩ := HA2.out
        obtain ⟨y1, y2⟩ := HZ.out
        obtain ⟨N, hN⟩ : ∃ x, (p.lines.getD i ln0).prms.length = x := ⟨_, rfl⟩
        have hmem : p.lines.getD i ln0 ∈ p.lines := mem_getD _ _ (by rw [HN.out]; exact hin)
        have hlb := B3.out _ hmem
        have hNb : N ≤ 1048577 := by have := hlb.1; omega
        have HLB := Lib.hid hlb.2
        have HNN := Lib.hid hN
        rw [hN] at hx1 hx2 d2 d5
        have hb1 : ∀ b, S1 b → b < wA.heap.size := fun b h => Nat.lt_of_lt_of_le (HS1.out b h) HBA.out.size
        have hb2 : ∀ b, S2 b → b < wA.heap.size := fun b h => Nat.lt_of_lt_of_le (HS2.out b h) HBA.out.size
        have HSA1 := Lib.hid hb1
        have HSA2 := Lib.hid hb2
        clear hlb hmem hN HA1 HA2 hb1 hb2 p1 p2 p3 p4 p5 p6 c1 c2 c3 c4
        go_wp2_with fail
        go_loopw [8] (fun c wr => ∃ k : Nat, c = .int .i64 (k : Int) ∧ k ≤ N ∧ Hid (Below wc.heap.size wc wr)) (fun c _ => N - (intOf c).toNat)
        case atStart => exact ⟨0, rfl, by omega, Lib.hid (Below.refl _ _)⟩
        case round =>
          obtain ⟨j, rfl, hj, HBj⟩ := hrel
          obtain ⟨wD, rfl⟩ : ∃ wo : World, wo = wr := ⟨_, rfl⟩
          have HBD : Hid (Below wA.heap.size wA wD) := Lib.hid (thenB HBx.out HBj.out)
          have b2' := (HBj.out.cell (p := ⟨z1, 1, none⟩) y1).trans d2
          have b5' := (HBj.out.cell (p := ⟨z2, 1, none⟩) y2).trans d5
          clear d1 d2 d3 d4 d5 d6
          by_cases hjn : j < N
          · have hjl : j < (p.lines.getD i ln0).prms.length := by rw [HNN.out]; exact hjn
            obtain ⟨q1, rfl, ⟨-, e1⟩, p1, x1, p2, X1⟩ := (hx1.out.call HSA1.out HBD.out).at hjl
            obtain ⟨q2, rfl, ⟨-, e2⟩, p3, x2, p4, X2⟩ := (hx2.out.call HSA2.out HBD.out).at hjl
            obtain ⟨r3, hr3⟩ : ∃ r, q1.block = r := ⟨_, rfl⟩
            obtain ⟨r4, hr4⟩ : ∃ r, q2.block = r := ⟨_, rfl⟩
            rw [hr3] at e1
            rw [hr4] at e2
            subst e1
            subst e2
            simp only [Addr.add_lit, Nat.zero_add] at p1 p2 p3 p4
            obtain ⟨F, hF⟩ : ∃ x, ((p.lines.getD i ln0).prms.getD j prm0).name = x := ⟨_, rfl⟩
            rw [hF] at p1 p3
            have hvl : ((p.lines.getD i ln0).prms.getD j prm0).vals.length ≤ 100000000 := by have := HLB.out _ (mem_getD _ prm0 hjl); omega
            have CLs : Hid (∀ w0, Below wD.heap.size wD w0 → Calls Tryd.prog 28 #[x1, x2] w0 fun e w' => e = .returned (.bool true) ∧ Below w0.heap.size w0 w') := Lib.hid fun w0 hb => listQ_same x1 x2 S1 S2 _ w0 hvl (X1.call (fun b h => Nat.lt_of_lt_of_le (HSA1.out b h) HBD.out.size) hb) (X2.call (fun b h => Nat.lt_of_lt_of_le (HSA2.out b h) HBD.out.size) hb) (fun b h => Nat.lt_of_lt_of_le (Nat.lt_of_lt_of_le (HSA1.out b h) HBD.out.size) hb.size) (fun b h => Nat.lt_of_lt_of_le (Nat.lt_of_lt_of_le (HSA2.out b h) HBD.out.size) hb.size)
            obtain ⟨o3, c3, rfl⟩ := X1.len
            obtain ⟨o4, c4, rfl⟩ := X2.len
            have k1 : (0 : Int) ≤ (j : Int) := by omega
            have k2 : (j : Int) < (N : Int) := by omega
            have g1 := cell_regrown b2'
            have g2 := cell_regrown b5'
            have g3 := cell_regrown p1
            have g4 := cell_regrown p2
            have g5 := cell_regrown p3
            have g6 := cell_regrown p4
            clear hF X1 X2 hvl hjl hr3 hr4 p1 p2 p3 p4
            go_wp2_with fail
            refine wp_region_below (by kernel_rfl) (by kernel_rfl) ?_
            repeat (go_big_quiet_step ((go_at_call 28; exact Calls.regrown_of (CLs.out _ (below_regrown _ _ _)))))
            refine wpQuiet_nil ?_
            intro w7 hb7
            have HB7 := Lib.hid (thenB HBj.out hb7)
            clear hb7 g1 g2 g3 g4 g5 g6
            go_wp2_with fail
            go_roundw
            case rel => exact ⟨j + 1, by go_num, by omega, HB7⟩
            case measure => simp [intOf]; omega
          · go_wp2_with fail
            go_roundw
            case rel => exact ⟨i + 1, by go_num, by omega, Lib.hid (thenB HB.out HBD.out)⟩
            case measure => simp [intOf]; omega
    · go_wp2_with fail
      go_loopw [9] (fun c wr => ∃ j : Nat, c = .int .i64 (j : Int) ∧ j ≤ m ∧ Hid (Below wB.heap.size wB wr)) (fun c _ => m - (intOf c).toNat)
      case atStart => exact ⟨0, rfl, by omega, HB⟩
      case round =>
        clear c1 c2 c3 c4
        obtain ⟨j, rfl, hj, HBj⟩ := hrel
        obtain ⟨wD, rfl⟩ : ∃ wo : World, wo = wr := ⟨_, rfl⟩
        have HBD : Hid (Below w.heap.size w wD) := Lib.hid (HBB.out.trans (HBj.out.mono HBB.out.size))
        obtain ⟨-, -, c2, -, c4⟩ := HC1.out _ HBj.out
        by_cases hjm : j < m
        · have hjl : j < p.parts.length := by rw [HM.out]; exact hjm
          obtain ⟨q1, rfl, ⟨-, e1⟩, p1, x1, x2, p2, p3, X1⟩ := (H1.out.call HS1.out HBD.out).kid hjl
          obtain ⟨q2, rfl, ⟨-, e2⟩, p4, x3, x4, p5, p6, X2⟩ := (H2.out.call HS2.out HBD.out).kid hjl
          obtain ⟨r3, hr3⟩ : ∃ r, q1.block = r := ⟨_, rfl⟩
          obtain ⟨r4, hr4⟩ : ∃ r, q2.block = r := ⟨_, rfl⟩
          rw [hr3] at e1
          rw [hr4] at e2
          subst e1
          subst e2
          simp only [Addr.add_lit, Nat.zero_add] at p1 p2 p3 p4 p5 p6
          have CK : Hid (∀ w0, Below wD.heap.size wD w0 → Calls Tryd.prog 12 #[.agg #[.string (p.parts.getD j part0).name, x1, x2], .agg #[.string (p.parts.getD j part0).name, x3, x4]] w0 fun e w' => e = .returned (.bool true) ∧ Below w0.heap.size w0 w') := Lib.hid fun w0 hb => IH.out _ w0 S1 S2 x1 x2 x3 x4 (B4.out _ (mem_getD _ _ hjl)) (X1.call (fun b h => Nat.lt_of_lt_of_le (HS1.out b h) HBD.out.size) hb) (X2.call (fun b h => Nat.lt_of_lt_of_le (HS2.out b h) HBD.out.size) hb) (fun b h => Nat.lt_of_lt_of_le (Nat.lt_of_lt_of_le (HS1.out b h) HBD.out.size) hb.size) (fun b h => Nat.lt_of_lt_of_le (Nat.lt_of_lt_of_le (HS2.out b h) HBD.out.size) hb.size)
          obtain ⟨⟨o1, n1, k1, rfl⟩, o2, n2, k2, rfl⟩ := X1.form
          obtain ⟨⟨o3, n3, k3, rfl⟩, o4, n4, k4, rfl⟩ := X2.form
          obtain ⟨F, hF⟩ : ∃ x, (p.parts.getD j part0).name = x := ⟨_, rfl⟩
          rw [hF] at p1 p4 CK
          have j1 : (0 : Int) ≤ (j : Int) := by omega
          have j2 : (j : Int) < (m : Int) := by omega
          have g1 := cell_regrown c2
          have g2 := cell_regrown c4
          have g3 := cell_regrown p1
          have g4 := cell_regrown p2
          have g5 := cell_regrown p3
          have g6 := cell_regrown p4
          have g7 := cell_regrown p5
          have g8 := cell_regrown p6
          clear hF X1 X2 hjl hr3 hr4 p1 p2 p3 p4 p5 p6
          go_wp2_with fail
          refine wp_region_below (by kernel_rfl) (by kernel_rfl) ?_
          repeat (go_big_quiet_step ((go_at_call 12; exact Calls.regrown_of (CK.out _ (below_regrown _ _ _)))))
          refine wpQuiet_nil ?_
          intro w7 hb7
          have HB7 := Lib.hid (thenB HBj.out hb7)
          clear hb7 g1 g2 g3 g4 g5 g6 g7 g8
          go_wp2_with fail
          go_roundw
          case rel => exact ⟨j + 1, by go_num, by omega, HB7⟩
          case measure => simp [intOf]; omega
        · go_wp2_with fail
          go_ret
          exact ⟨rfl, HBD.out⟩
/-- SamePart of two parts that hold the same. -/
theorem samePart_any (B : Nat) (hB : B ≤ 1048576) : ∀ k, SmC B k := by
  intro k
  induction k with
  | zero => intro p w S1 S2 u1 v1 u2 v2 hp; exact hp.elim
  | succ k ih => exact samePart_step B k hB ih
theorem ptB_zero (B k : Nat) : PtB B (k + 1) part0 := by
  unfold PtB
  exact ⟨Nat.zero_le _, Nat.zero_le _, fun x (h : x ∈ ([] : List Ln)) => (List.not_mem_nil h).elim, fun c (h : c ∈ ([] : List Part)) => (List.not_mem_nil h).elim⟩
/-- What is parsed is not too great. -/
theorem parseP_bound (s : ByteArray) : PtB 100000 8 (parseP s.data.toList).2.2 := by
  by_cases h : (parseP s.data.toList).1 = 0
  · by_cases h1 : 100000 < s.size
    · rw [parseP_long (l := s.data.toList) (by rw [len_eq]; exact h1)] at h
      exact absurd h (by decide)
    · by_cases h2 : 2000 < (unfL s.data.toList).length
      · rw [parseP_many (l := s.data.toList) (by rw [len_eq]; exact h1) h2] at h
        exact absurd h (by decide)
      · refine parseP_many_ok (by omega) (fun i => ?_) h
        by_cases hi : i < (unfL s.data.toList).length
        · exact Nat.le_trans (unfL_at s i hi) (by omega)
        · have h3 : (unfL s.data.toList).getD i [] = [] := by simp [List.getD, List.getElem?_eq_none (Nat.le_of_not_lt hi)]
          rw [h3]; exact Nat.zero_le _
  · rw [parseP_none h]; exact ptB_zero _ _
end Go.Proofs.YtidgahnamdhflaaDoor
