/- The document's readPart. -/
import Derived.Test.YtidgahnamdhflaaDoorPsxJ
import Derived.Test.YtidgahnamdhflaaDoorPsxQ
namespace Go.Proofs.YtidgahnamdhflaaDoor
open Go.RowKit Go.Shelf Fld Prt Psx
/-- readLine, in one. -/
theorem readLine_un {s : ByteArray} {E : Int} {L : Ln} (hs : s.size ≤ 1048576) (h : lnP s.data.toList = (E, L)) (w : World) : Calls Tryd.prog 42 #[.string s] w fun e w' => (∃ nm oa n c vl, e = .returned (.tuple #[.agg #[.string nm, .slice oa n c, .string vl], .int .i64 E]) ∧ (E = 0 → nm = L.name ∧ vl = L.value ∧ n = L.prms.length ∧ QPrm (fun b => w.heap.size ≤ b ∧ b < w'.heap.size) w' (.slice oa n c) L.prms)) ∧ Below w.heap.size w w' :=
  (readLine_any s w hs).mono fun e w' g => by
    refine ⟨?_, g.2.2⟩
    by_cases h0 : E = 0
    · subst h0
      obtain ⟨u, h1, h2⟩ := g.1 (by rw [h])
      rw [h] at h1 h2
      obtain ⟨oa, cap, rfl⟩ := h2.form
      exact ⟨_, oa, _, cap, _, h1, fun _ => ⟨rfl, rfl, rfl, h2⟩⟩
    · obtain ⟨nm, oa, n, c, vl, h1⟩ := g.2.1 (by rw [h]; exact h0)
      rw [h] at h1
      exact ⟨nm, oa, n, c, vl, h1, fun h => absurd h h0⟩
/-- The contract of readPart, k levels ahead of the deepest. -/
def QartC (rb lo : Nat) (vL : Value) (lines : List (List UInt8)) (k : Nat) : Prop :=
  ∀ (a : Nat) (w : World), Re rb lo vL lines a w → a ≤ lines.length → Calls Tryd.prog 26 #[vL, .pointer (some ⟨rb, 0, none⟩), .int .i64 (9 - (k : Int))] w (PuPost k rb lo vL lines (partP lines k a) w)
set_option maxRecDepth 100000 in
set_option maxHeartbeats 16000000 in
theorem readPart_at {rb lo : Nat} {vL : Value} {lines : List (List UInt8)} (hn : lines.length ≤ 1048576) (hl : ∀ i, i < lines.length → (lines.getD i []).length ≤ 1048576) (k : Nat) (hk : k ≤ 8) (ih : ∀ j, k = j + 1 → QartC rb lo vL lines j) : QartC rb lo vL lines k := by
  intro a w hR ha
  have HP := Lib.hid (PuZ.start hR)
  have z0 : (a : Int) ≤ (lines.length : Int) := by omega
  by_cases hal : a < lines.length
  · obtain ⟨lb, cap, rfl, l1, l2, hc⟩ := hR.line hal
    obtain ⟨r0, -, r2, r3, -, -⟩ := hR
    obtain ⟨s, hs⟩ : ∃ s, bs (lines.getD a []) = s := ⟨_, rfl⟩
    have hsl : s.data.toList = lines.getD a [] := by rw [← hs, bs_list]
    have hss : s.size ≤ 1048576 := by rw [← len_eq, hsl]; exact hl a hal
    rw [hs] at hc
    have z1 : (a : Int) < (lines.length : Int) := by omega
    have z2 : ((a : Int) == (lines.length : Int)) = false := beq_eq_false_iff_ne.2 (by omega)
    have z3 : (0 : Int) ≤ (a : Int) := by omega
    obtain ⟨E, L, hEL⟩ : ∃ E L, lnP (lines.getD a []) = (E, L) := ⟨_, _, rfl⟩
    have CL : Hid (∀ w0, Calls Tryd.prog 42 #[.string s] w0 fun e w' => (∃ nm oa n c vl, e = .returned (.tuple #[.agg #[.string nm, .slice oa n c, .string vl], .int .i64 E]) ∧ (E = 0 → nm = L.name ∧ vl = L.value ∧ n = L.prms.length ∧ QPrm (fun b => w0.heap.size ≤ b ∧ b < w'.heap.size) w' (.slice oa n c) L.prms)) ∧ Below w0.heap.size w0 w') := Lib.hid fun w0 => readLine_un hss (by rw [hsl, hEL]) w0
    have HEL := Lib.hid hEL
    clear hEL hs hsl
    go_enter Tryd.func26, Tryd.ntmps26
    go_upto_region 4 with (go_at_call 42; refine (CL.out _).mono ?_; rintro e w1 ⟨⟨nm, oa, n, c, vl, rfl, hok⟩, hb⟩; have HK := Lib.hid hok; have HP1 := Lib.hid (HP.out.call hb); clear hok hb)
    obtain ⟨wc, hwc⟩ : ∃ x, w1.alloc (.cells #[.string nm, .slice oa n c, .string vl] 64) = x := ⟨_, rfl⟩
    obtain ⟨z, hz⟩ : ∃ x, w1.heap.size = x := ⟨_, rfl⟩
    have HC : Hid (wc.cell? ⟨z, 0, none⟩ = some (.string nm) ∧ wc.cell? ⟨z, 1, none⟩ = some (.slice oa n c) ∧ wc.cell? ⟨z, 2, none⟩ = some (.string vl)) := Lib.hid (by rw [← hwc, ← hz]; exact ⟨by simp, by simp, by simp⟩)
    have HZ : Hid (z < wc.heap.size) := Lib.hid (by rw [← hwc, ← hz]; simp)
    have HPZ := Lib.hid (HP1.out.call ((Below.refl _ _).alloc (Nat.le_refl _) (.cells #[.string nm, .slice oa n c, .string vl] 64)))
    rw [hwc] at HPZ ⊢
    rw [hz] at *
    clear HP HP1 CL hc hwc hz r0 r2 r3
    have hz := HPZ.out.2.2.1
    obtain ⟨a1, a2, a3, a4, a5, a6⟩ := hz
    have hz := HPZ.out.2.2.2.1
    obtain ⟨r0, -, r2, r3, -, -⟩ := hz
    have f0 := HPZ.out.2.1
    have f1 := HZ.out
    obtain ⟨c0, c1, c2⟩ := HC.out
    by_cases hE0 : E = 0
    · subst hE0
      obtain ⟨rfl, rfl, rfl, -⟩ := HK.out rfl
      have HBAD : Hid (∀ x : Int, headE lines a = x → x ≠ 0 → partP lines k a = ⟨x, part0, a⟩) := Lib.hid fun x h h0 => by rw [partP_bad (k := k) (show headE lines a ≠ 0 by rw [h]; exact h0), h]
      have hL0 : (lnP (lines.getD a [])).1 = 0 := by rw [HEL.out]
      have hLL : (lnP (lines.getD a [])).2 = L := by rw [HEL.out]
      have hLv : L.value.size ≤ 1048576 := by
        have h := lnP_val (lines.getD a [])
        rw [hLL, len_eq] at h
        exact Nat.le_trans h (hl a hal)
      by_cases hnm : L.name.data.toList = [66, 69, 71, 73, 78]
      · have hn2 : L.name.toList = [66, 69, 71, 73, 78] := by rw [Lib.toList_data]; exact hnm
        by_cases hpr : L.prms = []
        · have hp1 : (L.prms.length : Int) = 0 := by rw [hpr]; rfl
          have hp2 : ¬ (0 : Int) < (L.prms.length : Int) := by omega
          obtain ⟨G, hG⟩ : ∃ G, bs (greatL L.value.data.toList) = G := ⟨_, rfl⟩
          have CG : Hid (∀ w0, Calls Tryd.prog 43 #[.string L.value] w0 fun e w' => e = .returned (.string G) ∧ Below w0.heap.size w0 w') := Lib.hid fun w0 => by
            have h := rgreat_any L.value w0 (Nat.le_trans hLv (by decide))
            rw [hG] at h
            exact h
          have hGl : G.data.toList = greatL L.value.data.toList := by rw [← hG]; rfl
          have hGs : G.size ≤ 1048576 := by rw [← len_eq, hGl, greatL_len, len_eq]; exact hLv
          have CN : Hid (∀ w0, Calls Tryd.prog 37 #[.string G] w0 fun e w' => e = .returned (.bool (nameB G.data.toList)) ∧ w0 = w') := Lib.hid fun w0 => partName_any G w0 (by omega)
          have GO : Hid (∀ w2, Below wc.heap.size wc w2 → PuZ rb lo (.slice (some ⟨lb, 0, none⟩) lines.length cap) lines w a (w2.alloc (.cells #[.string G, .slice none 0 0, .slice none 0 0] 25))) := Lib.hid fun w2 hb => (HPZ.out.call hb).call ((Below.refl _ _).alloc (Nat.le_refl _) _)
          cases hN : nameB G.data.toList with
          | false =>
            rw [hN] at CN
            have HR := Lib.hid (HBAD.out 8 (headE_name hal hL0 (by rw [hLL]; exact hnm) (by rw [hLL]; exact hpr) (by rw [hLL, ← hGl]; exact hN)) (by decide))
            clear hL0 hLL hnm hpr hG hGl hN
            go_wp2_with (first
              | (go_at_call 43; refine (CG.out _).mono ?_; rintro e w2 ⟨rfl, hb⟩; have HP2 := Lib.hid (GO.out _ hb); have HP0 := Lib.hid (HPZ.out.call hb); clear hb a1 a2 a3 a4 a5 a6 f0 r0 r2 r3 c0 c1 c2 f1; have hz := HP0.out.2.2.1; obtain ⟨a1, a2, a3, a4, a5, a6⟩ := hz; have hz := HP0.out.2.2.2.1; obtain ⟨r0, -, r2, r3, -, -⟩ := hz; have f0 := HP0.out.2.1)
              | (go_at_call 37; refine (CN.out _).mono ?_; rintro e w3 ⟨rfl, rfl⟩))
            have HQ := Lib.hid (HP0.out.2.2.1.fill (c0 := .string ⟨#[]⟩) (c1 := .slice none 0 0) (c2 := .slice none 0 0) rfl)
            have hsz : w.heap.size < (((w2.setCell ⟨w.heap.size, 0, none⟩ (.string ⟨#[]⟩)).setCell ⟨w.heap.size, 1, none⟩ (.slice none 0 0)).setCell ⟨w.heap.size, 2, none⟩ (.slice none 0 0)).heap.size := by simpa [World.setCell] using f0
            have hbA := fun o => (Below.refl (((w2.setCell ⟨w.heap.size, 0, none⟩ (.string ⟨#[]⟩)).setCell ⟨w.heap.size, 1, none⟩ (.slice none 0 0)).setCell ⟨w.heap.size, 2, none⟩ (.slice none 0 0)).heap.size (((w2.setCell ⟨w.heap.size, 0, none⟩ (.string ⟨#[]⟩)).setCell ⟨w.heap.size, 1, none⟩ (.slice none 0 0)).setCell ⟨w.heap.size, 2, none⟩ (.slice none 0 0))).alloc (Nat.le_refl _) o
            have hq1 := fun o => ((hbA o).cell (p := ⟨w.heap.size, 0, none⟩) hsz).trans HQ.out.1
            have hq2 := fun o => ((hbA o).cell (p := ⟨w.heap.size, 1, none⟩) hsz).trans HQ.out.2.1
            have hq3 := fun o => ((hbA o).cell (p := ⟨w.heap.size, 2, none⟩) hsz).trans HQ.out.2.2.1
            exact bodyPost_ret (v := .tuple #[.agg #[.string ⟨#[]⟩, .slice none 0 0, .slice none 0 0], .int .i64 8]) (by simp [results, Tryd.results26, go_sem, hq1, hq2, hq3]) rfl (HP0.out.bad (grown_then HQ.out.2.2.2 (grown_call (hbA _) (some w.heap.size)) (fun k hk => .inr hk)) (by rw [HR.out]) (by decide) (by rw [HR.out]))
          | true =>
            rw [hN] at CN
            have HE0 := Lib.hid (headE_ok hal hL0 (by rw [hLL]; exact hnm) (by rw [hLL]; exact hpr) (by rw [hLL, ← hGl]; exact hN))
            have HG : Hid (bs (greatL (lnP (lines.getD a [])).2.value.data.toList) = G) := Lib.hid (by rw [hLL]; exact hG)
            clear hL0 hLL hnm hpr hG hGl hN
            cases k with
            | zero =>
              have HR := Lib.hid (partP_zero HE0.out)
              go_wp2_with (first
                | (go_at_call 43; refine (CG.out _).mono ?_; rintro e w2 ⟨rfl, hb⟩; have HP2 := Lib.hid (GO.out _ hb); have HP0 := Lib.hid (HPZ.out.call hb); clear hb a1 a2 a3 a4 a5 a6 f0 r0 r2 r3 c0 c1 c2 f1; have hz := HP0.out.2.2.1; obtain ⟨a1, a2, a3, a4, a5, a6⟩ := hz; have hz := HP0.out.2.2.2.1; obtain ⟨r0, -, r2, r3, -, -⟩ := hz; have f0 := HP0.out.2.1)
                | (go_at_call 37; refine (CN.out _).mono ?_; rintro e w3 ⟨rfl, rfl⟩))
              have HQ := Lib.hid (HP0.out.2.2.1.fill (c0 := .string ⟨#[]⟩) (c1 := .slice none 0 0) (c2 := .slice none 0 0) rfl)
              have hsz : w.heap.size < (((w2.setCell ⟨w.heap.size, 0, none⟩ (.string ⟨#[]⟩)).setCell ⟨w.heap.size, 1, none⟩ (.slice none 0 0)).setCell ⟨w.heap.size, 2, none⟩ (.slice none 0 0)).heap.size := by simpa [World.setCell] using f0
              have hbA := fun o => (Below.refl (((w2.setCell ⟨w.heap.size, 0, none⟩ (.string ⟨#[]⟩)).setCell ⟨w.heap.size, 1, none⟩ (.slice none 0 0)).setCell ⟨w.heap.size, 2, none⟩ (.slice none 0 0)).heap.size (((w2.setCell ⟨w.heap.size, 0, none⟩ (.string ⟨#[]⟩)).setCell ⟨w.heap.size, 1, none⟩ (.slice none 0 0)).setCell ⟨w.heap.size, 2, none⟩ (.slice none 0 0))).alloc (Nat.le_refl _) o
              have hq1 := fun o => ((hbA o).cell (p := ⟨w.heap.size, 0, none⟩) hsz).trans HQ.out.1
              have hq2 := fun o => ((hbA o).cell (p := ⟨w.heap.size, 1, none⟩) hsz).trans HQ.out.2.1
              have hq3 := fun o => ((hbA o).cell (p := ⟨w.heap.size, 2, none⟩) hsz).trans HQ.out.2.2.1
              exact bodyPost_ret (v := .tuple #[.agg #[.string ⟨#[]⟩, .slice none 0 0, .slice none 0 0], .int .i64 6]) (by simp [results, Tryd.results26, go_sem, hq1, hq2, hq3]) rfl (HP0.out.bad (grown_then HQ.out.2.2.2 (grown_call (hbA _) (some w.heap.size)) (fun k hk => .inr hk)) (by rw [HR.out]) (by decide) (by rw [HR.out]))
            | succ j =>
              have HV : Hid (partP lines (j + 1) a = loopP lines (partP lines j) G (lines.length + 1) [] [] (a + 1)) := Lib.hid (by rw [partP_succ HE0.out, HG.out])
              have IH : Hid (QartC rb lo (.slice (some ⟨lb, 0, none⟩) lines.length cap) lines j) := Lib.hid (ih j rfl)
              obtain ⟨D, hD⟩ : ∃ D : Int, 9 - ((j + 1 : Nat) : Int) = D := ⟨_, rfl⟩
              rw [hD]
              have d1 : ¬ 8 < D := by omega
              have d2 : (0 : Int) ≤ D := by omega
              have hDj : Hid (9 - (j : Int) = D + 1) := Lib.hid (by omega)
              have wD : IntKind.i64.wrap (D + 1) = D + 1 := IntWalk.i64_in _ (by omega)
              have wa : IntKind.i64.wrap ((a : Int) + 1) = (a : Int) + 1 := IntWalk.i64_in _ (by omega)
              clear hD ih HBAD HE0 HG
              go_wp2_with (first
                | (go_at_call 43; refine (CG.out _).mono ?_; rintro e w2 ⟨rfl, hb⟩; have HP2 := Lib.hid (GO.out _ hb); have HP0 := Lib.hid (HPZ.out.call hb); clear hb a1 a2 a3 a4 a5 a6 f0 r0 r2 r3 c0 c1 c2 f1; have hz := HP0.out.2.2.1; obtain ⟨a1, a2, a3, a4, a5, a6⟩ := hz; have hz := HP0.out.2.2.2.1; obtain ⟨r0, -, r2, r3, -, -⟩ := hz; have f0 := HP0.out.2.1)
                | (go_at_call 37; refine (CN.out _).mono ?_; rintro e w3 ⟨rfl, rfl⟩))
              have HPS := Lib.hid (by have h := (HP0.out.go G).at (a + 1); rw [World.setCell_alloc_past (hn := r0)] at h; exact h)
              obtain ⟨X0, hX0⟩ : ∃ X, w2.heap.size = X := ⟨_, rfl⟩
              rw [hX0] at HPS ⊢
              clear HP2 HP0 GO HPZ HC HZ CG CN HK
              go_loopg [] lines.length (fun gk wr => ∃ (a2 f : Nat) (u v : Value) (ls : List Ln) (ps : List Part), a2 ≤ lines.length ∧ lines.length ≤ a2 + gk ∧ lines.length < a2 + f ∧ ls.length + ps.length ≤ a2 ∧ Hid (PuS rb lo (.slice (some ⟨lb, 0, none⟩) lines.length cap) lines w X0 G u v a2 wr) ∧ Hid (Rows2 j X0 u v ls ps wr) ∧ Hid (partP lines (j + 1) a = loopP lines (partP lines j) G f ls ps a2))
              case atStart => exact ⟨a + 1, lines.length + 1, .slice none 0 0, .slice none 0 0, [], [], by omega, by omega, by omega, Nat.zero_le _, HPS, Lib.hid (.inl ⟨rfl, rfl, [], rfl, RowQ.nil⟩), HV⟩
              case round =>
                clear HPS HV hX0
                obtain ⟨a2, f, u, v, ls, ps, ha2, hgk, hf, hsum, HP, HRW, HVV⟩ := hrel
                obtain ⟨wA, rfl⟩ : ∃ wo : World, wo = wr := ⟨_, rfl⟩
                have hform := HRW.out.form
                obtain ⟨⟨ou, cu, rfl⟩, ov, cv, rfl⟩ := hform
                have hfa := HP.out
                obtain ⟨⟨q0, -⟩, -, ⟨q1, q2⟩, ⟨a1, a2', a3, a4, a5, a6⟩, ⟨b1, b2, b3, b4, b5⟩, ⟨r0, -, r2, r3, -, -⟩⟩ := hfa
                by_cases hal2 : a2 < lines.length
                · have hln := HP.out.2.2.2.2.2.line hal2
                  obtain ⟨lb2, cap2, hv, l1', l2', hc⟩ := hln
                  have hv' : lb = lb2 ∧ cap = cap2 := by simpa using hv
                  obtain ⟨rfl, rfl⟩ := hv'
                  clear hv
                  obtain ⟨s2, hs2⟩ : ∃ s, bs (lines.getD a2 []) = s := ⟨_, rfl⟩
                  have hsl2 : s2.data.toList = lines.getD a2 [] := by rw [← hs2, bs_list]
                  have hss2 : s2.size ≤ 1048576 := by rw [← len_eq, hsl2]; exact hl a2 hal2
                  rw [hs2] at hc
                  have t1 : (a2 : Int) < (lines.length : Int) := by omega
                  have t3 : (0 : Int) ≤ (a2 : Int) := by omega
                  obtain ⟨E2, L2, hEL2⟩ : ∃ E L, lnP (lines.getD a2 []) = (E, L) := ⟨_, _, rfl⟩
                  have CL : Hid (∀ w0, Calls Tryd.prog 42 #[.string s2] w0 fun e w' => (∃ nm oa n c vl, e = .returned (.tuple #[.agg #[.string nm, .slice oa n c, .string vl], .int .i64 E2]) ∧ (E2 = 0 → nm = L2.name ∧ vl = L2.value ∧ n = L2.prms.length ∧ QPrm (fun b => w0.heap.size ≤ b ∧ b < w'.heap.size) w' (.slice oa n c) L2.prms)) ∧ Below w0.heap.size w0 w') := Lib.hid fun w0 => readLine_un hss2 (by rw [hsl2, hEL2]) w0
                  have HEL2 := Lib.hid hEL2
                  have hLv2 : L2.value.size ≤ 1048576 := by
                    have h := lnP_val (lines.getD a2 [])
                    rw [hEL2, len_eq] at h
                    exact Nat.le_trans h (hl a2 hal2)
                  clear hEL2 hs2 hsl2
                  go_upto_region 16 with (go_at_call 42; refine (CL.out _).mono ?_; rintro e w5 ⟨⟨nm2, oa2, n2, c2', vl2, rfl, hok⟩, hb⟩; have HK := Lib.hid hok; have HB5 := Lib.hid hb; clear hok hb)
                  obtain ⟨wc, hwc⟩ : ∃ x, w5.alloc (.cells #[.string nm2, .slice oa2 n2 c2', .string vl2] 64) = x := ⟨_, rfl⟩
                  obtain ⟨z, hz⟩ : ∃ x, w5.heap.size = x := ⟨_, rfl⟩
                  have HC : Hid (wc.cell? ⟨z, 0, none⟩ = some (.string nm2) ∧ wc.cell? ⟨z, 1, none⟩ = some (.slice oa2 n2 c2') ∧ wc.cell? ⟨z, 2, none⟩ = some (.string vl2)) := Lib.hid (by rw [← hwc, ← hz]; exact ⟨by simp, by simp, by simp⟩)
                  have HZ : Hid (z < wc.heap.size) := Lib.hid (by rw [← hwc, ← hz]; simp)
                  have HB6 : Hid (Below w5.heap.size w5 wc) := Lib.hid (by rw [← hwc]; exact (Below.refl _ _).alloc (Nat.le_refl _) _)
                  have HBx : Hid (Below wA.heap.size wA wc) := Lib.hid (thenB HB5.out HB6.out)
                  replace HK : Hid (E2 = 0 → nm2 = L2.name ∧ vl2 = L2.value ∧ n2 = L2.prms.length ∧ QPrm (fun b => wA.heap.size ≤ b ∧ b < wc.heap.size) wc (.slice oa2 n2 c2') L2.prms) := Lib.hid fun h => ⟨(HK.out h).1, (HK.out h).2.1, (HK.out h).2.2.1, (HK.out h).2.2.2.keep fun b hb => ⟨⟨hb.1, Nat.lt_of_lt_of_le hb.2 HB6.out.size⟩, HB6.out.block b hb.2⟩⟩
                  rw [hwc]
                  clear HB5 HB6 hwc
                  rw [hz]
                  clear hz
                  have HPx := Lib.hid (HP.out.call HBx.out)
                  have HRx := Lib.hid (HRW.out.grown (grown_call HBx.out (some rb)) (by omega))
                  clear CL hc a1 a2' a3 a4 a5 a6 b1 b2 b3 b4 b5 r0 r2 r3 q2 l1'
                  have hfa := HPx.out
                  obtain ⟨-, -, ⟨-, q2⟩, ⟨a1, a2', a3, a4, a5, a6⟩, ⟨b1, b2, b3, b4, b5⟩, ⟨r0, r1, r2, r3, -, -⟩⟩ := hfa
                  have f1 := HZ.out
                  have f0 : w.heap.size < wc.heap.size := by omega
                  obtain ⟨c0, c1, c2⟩ := HC.out
                  obtain ⟨f', rfl⟩ : ∃ f', f = f' + 1 := ⟨f - 1, by omega⟩
                  have hV := HVV.out
                  rw [loopP_step hal2, HEL2.out] at hV
                  simp only at hV
                  by_cases hE0 : E2 = 0
                  · subst hE0
                    obtain ⟨rfl, rfl, rfl, hqp⟩ := HK.out rfl
                    have HQP := Lib.hid hqp
                    rw [if_neg (fun h => h rfl)] at hV
                    clear hqp
                    by_cases hnm : L2.name.data.toList = [66, 69, 71, 73, 78]
                    · have hn2 : (L2.name.toList == [66, 69, 71, 73, 78]) = true := by rw [Lib.toList_data, hnm]; rfl
                      have hn3 : (L2.name.toList == [69, 78, 68]) = false := beq_eq_false_iff_ne.2 (by rw [Lib.toList_data, hnm]; decide)
                      go_upto_region 18 with fail
                      go_quiet (fail)
                      obtain ⟨wd, hwd⟩ : ∃ x, wc.drewN nq = x := ⟨_, rfl⟩
                      have HBd : Hid (Below wc.heap.size wc wd) := Lib.hid (by rw [← hwd]; exact below_drewN (Below.refl _ _) nq)
                      rw [hwd]
                      clear hwd
                      replace HC : Hid (wd.cell? ⟨z, 0, none⟩ = some (.string L2.name) ∧ wd.cell? ⟨z, 1, none⟩ = some (.slice oa2 L2.prms.length c2') ∧ wd.cell? ⟨z, 2, none⟩ = some (.string L2.value)) := Lib.hid ⟨(HBd.out.cell (p := ⟨z, 0, none⟩) f1).trans c0, (HBd.out.cell (p := ⟨z, 1, none⟩) f1).trans c1, (HBd.out.cell (p := ⟨z, 2, none⟩) f1).trans c2⟩
                      replace HZ : Hid (z < wd.heap.size) := Lib.hid (Nat.lt_of_lt_of_le HZ.out HBd.out.size)
                      replace HBx := Lib.hid (thenB HBx.out HBd.out)
                      replace HPx := Lib.hid (HPx.out.call HBd.out)
                      replace HRx := Lib.hid (HRx.out.grown (grown_call HBd.out (some rb)) (by omega))
                      replace HQP : Hid (QPrm (fun b => wA.heap.size ≤ b ∧ b < wd.heap.size) wd (.slice oa2 L2.prms.length c2') L2.prms) := Lib.hid (HQP.out.keep fun b hb => ⟨⟨hb.1, Nat.lt_of_lt_of_le hb.2 HBd.out.size⟩, HBd.out.block b hb.2⟩)
                      clear HK HBd a1 a2' a3 a4 a5 a6 b1 b2 b3 b4 b5 r0 r1 r2 r3 q2 f0 f1 c0 c1 c2
                      have hfa := HPx.out
                      obtain ⟨-, -, ⟨-, q2⟩, ⟨a1, a2', a3, a4, a5, a6⟩, ⟨b1, b2, b3, b4, b5⟩, ⟨r0, r1, r2, r3, -, -⟩⟩ := hfa
                      have f1 := HZ.out
                      have f0 : w.heap.size < wd.heap.size := by omega
                      obtain ⟨c0, c1, c2⟩ := HC.out
                      obtain ⟨wc, rfl⟩ : ∃ wo : World, wo = wd := ⟨_, rfl⟩
                      rw [if_pos hnm] at hV
                      have hcall := IH.out a2 wc HPx.out.2.2.2.2.2 ha2
                      rw [hDj.out] at hcall
                      have hpos := partP_pos j a2 ha2
                      obtain ⟨R5, hR5⟩ : ∃ r, partP lines j a2 = r := ⟨_, rfl⟩
                      rw [hR5] at hcall hpos hV
                      have CK := Lib.hid hcall
                      clear hcall hR5 hnm
                      by_cases hge : R5.err = 0
                      · rw [if_neg (fun h => h hge)] at hV
                        have HV2 := Lib.hid hV
                        have hps5 := hpos.2.2 hge
                        have hpl5 := hpos.2.1
                        have HGE := Lib.hid hge
                        have hB0 := HRx.out.toB q2
                        obtain ⟨M, lq, hlq, hB⟩ := hB0
                        have hlen : lq.length ≤ ps.length := by rw [← hlq, List.length_map]; exact Nat.le_refl _
                        have HB := Lib.hid hB
                        have HLQ := Lib.hid hlq
                        clear hV hge hpos hB hlq
                        obtain ⟨il, hi0, hz0, hz1, hz2⟩ := info_parts3 apart_info
                        go_wp2_with (first
                          | (go_at_call 26; refine CK.out.mono ?_; rintro e w5 ⟨hRd, hg5, hok, -⟩; obtain ⟨u5, v5, rfl, hq5⟩ := hok HGE.out; have HG5 := Lib.hid hg5; have HQ5 := Lib.hid hq5; have HP5 := Lib.hid (HPx.out.step hg5 hRd); have HB5 := Lib.hid (HB.out.grown hg5 (by omega)); have hfm := hq5.form; obtain ⟨⟨ou5, n5, cu5, rfl⟩, ov5, m5, cv5, rfl⟩ := hfm; clear hok hRd hg5 hq5 a1 a2' a3 a4 a5 a6 b1 b2 b3 b4 b5 r0 r1 r2 r3 q2 f0 f1 c0 c1 c2; have hfa := HP5.out; obtain ⟨-, -, ⟨-, q2⟩, ⟨a1, a2', a3, a4, a5, a6⟩, ⟨b1, b2, b3, b4, b5⟩, ⟨r0, r1, r2, r3, -, -⟩⟩ := hfa)
                          | (at_builtin; refine wpList_append_lies _ rfl _ _ 23 rfl M 25 il (.agg #[.string ⟨#[]⟩, .slice none 0 0, .slice none 0 0]) 3 64 Tryd.underlying23 hi0 hz0 hz1 hz2 rfl (by decide) _ lq.length (lq.flatMap cPart) rfl ((HB5.out.2.2.2.1.alloc _).alloc _) _ 1 1 [.string R5.part.name, .slice ou5 n5 cu5, .slice ov5 m5 cv5] rfl rfl (cells_at (by simp) _ _) (by simp [Value.oneCell']) (by decide) (by unfold maxLen; omega) (by omega) (by have := HB5.out.2.1; simp; omega) _ rfl ?_; intro g5 c5 w6 hown hgrow hat _; have hb6 : Below w5.heap.size w5 ((w5.alloc (.cells #[.string R5.part.name, .slice ou5 n5 cu5, .slice ov5 m5 cv5] 25)).alloc (.cells #[.string R5.part.name, .slice ou5 n5 cu5, .slice ov5 m5 cv5] 25)) := ((Below.refl _ _).alloc (Nat.le_refl _) _).alloc (by simp) _; have hp6 := (HP5.out.call hb6).app hgrow (fun k hk => by have := (World.ownsRow.lt HB5.out.2.2.2.1 k hk).1; have := HB5.out.1; omega); have hr6 := (HB5.out.grown (grown_call hb6 (some rb)) (by omega)).more (a := (R5.part, .slice ou5 n5 cu5, .slice ov5 m5 cv5)) hown hgrow hat (HQ5.out.keep fun b hb => ⟨⟨by have := HB.out.2.1; omega, Nat.lt_of_lt_of_le hb.2 hb6.size, fun e => by have := (World.ownsRow.lt HB.out.2.2.2.1 b e).2; omega⟩, hb6.block b hb.2⟩); have HM6 := Lib.hid (hp6.putV (.slice (some ⟨g5, 0, none⟩) (lq.length + 1) c5)); have HR6 := Lib.hid (hr6.grown (grown_set w6 ⟨X0, 2, none⟩ (.slice (some ⟨g5, 0, none⟩) (lq.length + 1) c5)) (Nat.le_refl _)); obtain ⟨-, -, ⟨-, y5⟩, -, ⟨-, -, -, y6, y7⟩, ⟨s0, s1, s2, s3, -, -⟩⟩ := hp6; clear hr6 hown hgrow hat hb6))
                        go_roundg (lines.length - R5.pos)
                        case measure => omega
                        case rel => exact ⟨R5.pos, f', _, _, ls, ps ++ [R5.part], hpl5, by omega, by omega, by rw [List.length_append, List.length_singleton]; omega, HM6, Lib.hid (.inr ⟨by simp, M, lq ++ [(R5.part, .slice ou5 n5 cu5, .slice ov5 m5 cv5)], by rw [List.map_append, HLQ.out]; rfl, HR6.out⟩), HV2⟩
                      · rw [if_pos hge] at hV
                        have HR := Lib.hid hV
                        have HGE := Lib.hid hge
                        clear hV hge hpos
                        have e0 : (R5.err == 0) = false := beq_eq_false_iff_ne.2 HGE.out
                        go_wp2_with (go_at_call 26; refine CK.out.mono ?_; rintro e w5 ⟨hRd, hg5, -, hno⟩; obtain ⟨n5, oa5, m5, k5, ob5, m6, k6, rfl⟩ := hno HGE.out; have HP5 := Lib.hid (HPx.out.step hg5 hRd); clear hno hRd hg5 a1 a2' a3 a4 a5 a6 b1 b2 b3 b4 b5 r0 r1 r2 r3 q2 f0 f1 c0 c1 c2; have hfa := HP5.out; obtain ⟨-, -, ⟨-, q2⟩, ⟨a1, a2', a3, a4, a5, a6⟩, ⟨b1, b2, b3, b4, b5⟩, ⟨r0, r1, r2, r3, -, -⟩⟩ := hfa; have f0 : w.heap.size < w5.heap.size := by omega)
                        have HQ := Lib.hid (HP5.out.2.2.2.1.fill (c0 := .string G) (c1 := .slice ou ls.length cu) (c2 := .slice ov ps.length cv) rfl)
                        have hsz : w.heap.size < (((w5.setCell ⟨w.heap.size, 0, none⟩ (.string G)).setCell ⟨w.heap.size, 1, none⟩ (.slice ou ls.length cu)).setCell ⟨w.heap.size, 2, none⟩ (.slice ov ps.length cv)).heap.size := by simpa [World.setCell] using f0
                        have hbA := fun o => (Below.refl (((w5.setCell ⟨w.heap.size, 0, none⟩ (.string G)).setCell ⟨w.heap.size, 1, none⟩ (.slice ou ls.length cu)).setCell ⟨w.heap.size, 2, none⟩ (.slice ov ps.length cv)).heap.size (((w5.setCell ⟨w.heap.size, 0, none⟩ (.string G)).setCell ⟨w.heap.size, 1, none⟩ (.slice ou ls.length cu)).setCell ⟨w.heap.size, 2, none⟩ (.slice ov ps.length cv))).alloc (Nat.le_refl _) o
                        have hq1 := fun o => ((hbA o).cell (p := ⟨w.heap.size, 0, none⟩) hsz).trans HQ.out.1
                        have hq2 := fun o => ((hbA o).cell (p := ⟨w.heap.size, 1, none⟩) hsz).trans HQ.out.2.1
                        have hq3 := fun o => ((hbA o).cell (p := ⟨w.heap.size, 2, none⟩) hsz).trans HQ.out.2.2.1
                        exact bodyPost_ret (v := .tuple #[.agg #[.string G, .slice ou ls.length cu, .slice ov ps.length cv], .int .i64 R5.err]) (by simp [results, Tryd.results26, go_sem, hq1, hq2, hq3]) rfl (HP5.out.bad (grown_then HQ.out.2.2.2 (grown_call (hbA _) (some w.heap.size)) (fun k hk => .inr hk)) (by rw [HR.out]) HGE.out (by rw [HR.out]))
                    · have hn2 : (L2.name.toList == [66, 69, 71, 73, 78]) = false := beq_eq_false_iff_ne.2 (by rw [Lib.toList_data]; exact hnm)
                      rw [if_neg hnm] at hV
                      by_cases hne : L2.name.data.toList = [69, 78, 68]
                      · have hn3 : (L2.name.toList == [69, 78, 68]) = true := by rw [Lib.toList_data, hne]; rfl
                        rw [if_pos hne] at hV
                        by_cases hpr : L2.prms = []
                        · have hp3 : (L2.prms.length : Int) = 0 := by rw [hpr]; rfl
                          have hp4 : ¬ (0 : Int) < (L2.prms.length : Int) := by omega
                          have hp5 : decide ((0 : Int) < (L2.prms.length : Int)) = false := decide_eq_false hp4
                          obtain ⟨G2, hG2⟩ : ∃ G, bs (greatL L2.value.data.toList) = G := ⟨_, rfl⟩
                          have CG2 : Hid (∀ w0, Calls Tryd.prog 43 #[.string L2.value] w0 fun e w' => e = .returned (.string G2) ∧ Below w0.heap.size w0 w') := Lib.hid fun w0 => by
                            have h := rgreat_any L2.value w0 (Nat.le_trans hLv2 (by decide))
                            rw [hG2] at h
                            exact h
                          have hGl2 : greatL L2.value.data.toList = G2.data.toList := by rw [← hG2]; rfl
                          rw [hGl2] at hV
                          have S2 : Hid (∀ wx, Below wc.heap.size wc wx → wx.cell? ⟨z, 0, none⟩ = some (.string L2.name) ∧ wx.cell? ⟨z, 1, none⟩ = some (.slice oa2 L2.prms.length c2') ∧ wx.cell? ⟨z, 2, none⟩ = some (.string L2.value) ∧ wx.cell? ⟨X0, 0, none⟩ = some (.string G)) := Lib.hid fun wx hb => ⟨(hb.cell (p := ⟨z, 0, none⟩) f1).trans c0, (hb.cell (p := ⟨z, 1, none⟩) f1).trans c1, (hb.cell (p := ⟨z, 2, none⟩) f1).trans c2, (hb.cell (p := ⟨X0, 0, none⟩) q2).trans b1⟩
                          have HV2 := Lib.hid hV
                          have HPR := Lib.hid hpr
                          have wa2 : IntKind.i64.wrap ((a2 : Int) + 1) = (a2 : Int) + 1 := IntWalk.i64_in _ (by omega)
                          clear hV hnm hne hG2 hGl2 hpr
                          go_upto_region 18 with fail
                          have HX := Lib.hid (below_drew (Below.refl wc.heap.size wc))
                          go_region_held3 (fun w' => w'.cell? ⟨z, 0, none⟩ = some (.string L2.name) ∧ w'.cell? ⟨z, 1, none⟩ = some (.slice oa2 L2.prms.length c2') ∧ w'.cell? ⟨z, 2, none⟩ = some (.string L2.value) ∧ w'.cell? ⟨X0, 0, none⟩ = some (.string G)) (first | exact S2.out _ HX.out | exact S2.out _ HX1.out)
                            (first | (go_at_call 43; refine (CG2.out _).mono ?_; rintro e w1 ⟨rfl, hb⟩; have HX1 : Hid (Below wc.heap.size wc w1) := Lib.hid (thenB HX.out hb); clear hb))
                          have cz := (HX1.out.cell (p := ⟨z, 0, none⟩) f1).trans c0
                          have fz := Nat.lt_of_lt_of_le f1 HX1.out.size
                          have HP1 := Lib.hid (HPx.out.call HX1.out)
                          have HR1 := Lib.hid (HRx.out.grown (grown_call HX1.out (some rb)) (by omega))
                          clear a1 a2' a3 a4 a5 a6 b1 b2 b3 b4 b5 r0 r1 r2 r3 q2 f0 f1 c0 c1 c2
                          have hfa := HP1.out
                          obtain ⟨-, -, ⟨-, q2⟩, ⟨a1, a2', a3, a4, a5, a6⟩, ⟨b1, b2, b3, b4, b5⟩, ⟨r0, r1, r2, r3, -, -⟩⟩ := hfa
                          have f0 : w.heap.size < w1.heap.size := by omega
                          have x1 : ¬ rb = X0 := by omega
                          have x2 : ¬ X0 = rb := by omega
                          have x3 : ¬ rb = w.heap.size := by omega
                          have x4 : ¬ w.heap.size = rb := by omega
                          by_cases hgg : G2.data.toList = G.data.toList
                          · obtain rfl : G2 = G := str_eq hgg
                            have HR : Hid (partP lines (j + 1) a = ⟨0, .mk G2 ls ps, a2 + 1⟩) := Lib.hid (HV2.out.trans (if_neg (fun h => h.elim (fun h => h HPR.out) (fun h => h rfl))))
                            clear hgg
                            go_wp2_with fail
                            · rename_i h; exact absurd h (by simp)
                            have HPe := Lib.hid (show PuS rb lo (.slice (some ⟨lb, 0, none⟩) lines.length cap) lines w X0 G2 (.slice ou ls.length cu) (.slice ov ps.length cv) (a2 + 1) (w1.setCell ⟨rb, 0, none⟩ (.int .i64 ((a2 : Int) + 1))) from HP1.out.at (a2 + 1))
                            have HQ := Lib.hid (HPe.out.2.2.2.1.fill (c0 := .string G2) (c1 := .slice ou ls.length cu) (c2 := .slice ov ps.length cv) rfl)
                            have hq1 := HQ.out.1
                            have hq2 := HQ.out.2.1
                            have hq3 := HQ.out.2.2.1
                            exact bodyPost_ret (v := .tuple #[.agg #[.string G2, .slice ou ls.length cu, .slice ov ps.length cv], .int .i64 0]) (by simp [results, Tryd.results26, go_sem, hq1, hq2, hq3]) rfl (HPe.out.good (HR1.out.grown (grown_set _ _ _) (by show rb ≤ X0; omega)) HQ.out.2.2.2 HR.out)
                          · have HR : Hid (partP lines (j + 1) a = ⟨5, part0, a2⟩) := Lib.hid (HV2.out.trans (if_pos (.inr hgg)))
                            have g1 : ¬ G2.toList = G.toList := by rw [Lib.toList_data, Lib.toList_data]; exact hgg
                            have g2 : (G2.toList == G.toList) = false := beq_eq_false_iff_ne.2 g1
                            clear hgg
                            go_wp2_with fail
                            · have HQ := Lib.hid (HP1.out.2.2.2.1.fill (c0 := .string G) (c1 := .slice ou ls.length cu) (c2 := .slice ov ps.length cv) rfl)
                              have hq1 := HQ.out.1
                              have hq2 := HQ.out.2.1
                              have hq3 := HQ.out.2.2.1
                              exact bodyPost_ret (v := .tuple #[.agg #[.string G, .slice ou ls.length cu, .slice ov ps.length cv], .int .i64 5]) (by simp [results, Tryd.results26, go_sem, hq1, hq2, hq3]) rfl (HP1.out.bad HQ.out.2.2.2 (by rw [HR.out]) (by decide) (by rw [HR.out]))
                            · rename_i h; exact absurd h (by simp [g1])
                        · have hp3 : (0 : Int) < (L2.prms.length : Int) := by have := List.length_pos_iff.2 hpr; omega
                          have hp5 : decide ((0 : Int) < (L2.prms.length : Int)) = true := decide_eq_true hp3
                          have hp6 : 0 < L2.prms.length := List.length_pos_iff.2 hpr
                          have hp7 : ¬ L2.prms.length = 0 := by omega
                          have hp8 : ¬ L2.prms = [] := hpr
                          have HR : Hid (partP lines (j + 1) a = ⟨5, part0, a2⟩) := Lib.hid (hV.trans (if_pos (.inl hpr)))
                          clear hV hnm hne hpr
                          have S2 : Hid (∀ wx, Below wc.heap.size wc wx → wx.cell? ⟨z, 0, none⟩ = some (.string L2.name) ∧ wx.cell? ⟨z, 1, none⟩ = some (.slice oa2 L2.prms.length c2') ∧ wx.cell? ⟨z, 2, none⟩ = some (.string L2.value) ∧ wx.cell? ⟨X0, 0, none⟩ = some (.string G)) := Lib.hid fun wx hb => ⟨(hb.cell (p := ⟨z, 0, none⟩) f1).trans c0, (hb.cell (p := ⟨z, 1, none⟩) f1).trans c1, (hb.cell (p := ⟨z, 2, none⟩) f1).trans c2, (hb.cell (p := ⟨X0, 0, none⟩) q2).trans b1⟩
                          go_upto_region 18 with fail
                          go_quiet (fail)
                          have HX := Lib.hid (below_drewN (Below.refl wc.heap.size wc) nq)
                          have HP1 := Lib.hid (HPx.out.call HX.out)
                          go_wp2_with fail
                          have HQ := Lib.hid (HP1.out.2.2.2.1.fill (c0 := .string G) (c1 := .slice ou ls.length cu) (c2 := .slice ov ps.length cv) rfl)
                          have hq1 := HQ.out.1
                          have hq2 := HQ.out.2.1
                          have hq3 := HQ.out.2.2.1
                          exact bodyPost_ret (v := .tuple #[.agg #[.string G, .slice ou ls.length cu, .slice ov ps.length cv], .int .i64 5]) (by simp [results, Tryd.results26, go_sem, hq1, hq2, hq3]) rfl (HP1.out.bad HQ.out.2.2.2 (by rw [HR.out]) (by decide) (by rw [HR.out]))
                      · have hn3 : (L2.name.toList == [69, 78, 68]) = false := beq_eq_false_iff_ne.2 (by rw [Lib.toList_data]; exact hne)
                        rw [if_neg hne] at hV
                        go_upto_region 18 with fail
                        go_quiet (fail)
                        obtain ⟨wd, hwd⟩ : ∃ x, wc.drewN nq = x := ⟨_, rfl⟩
                        have HBd : Hid (Below wc.heap.size wc wd) := Lib.hid (by rw [← hwd]; exact below_drewN (Below.refl _ _) nq)
                        rw [hwd]
                        clear hwd
                        replace HC : Hid (wd.cell? ⟨z, 0, none⟩ = some (.string L2.name) ∧ wd.cell? ⟨z, 1, none⟩ = some (.slice oa2 L2.prms.length c2') ∧ wd.cell? ⟨z, 2, none⟩ = some (.string L2.value)) := Lib.hid ⟨(HBd.out.cell (p := ⟨z, 0, none⟩) f1).trans c0, (HBd.out.cell (p := ⟨z, 1, none⟩) f1).trans c1, (HBd.out.cell (p := ⟨z, 2, none⟩) f1).trans c2⟩
                        replace HZ : Hid (z < wd.heap.size) := Lib.hid (Nat.lt_of_lt_of_le HZ.out HBd.out.size)
                        replace HBx := Lib.hid (thenB HBx.out HBd.out)
                        replace HPx := Lib.hid (HPx.out.call HBd.out)
                        replace HRx := Lib.hid (HRx.out.grown (grown_call HBd.out (some rb)) (by omega))
                        replace HQP : Hid (QPrm (fun b => wA.heap.size ≤ b ∧ b < wd.heap.size) wd (.slice oa2 L2.prms.length c2') L2.prms) := Lib.hid (HQP.out.keep fun b hb => ⟨⟨hb.1, Nat.lt_of_lt_of_le hb.2 HBd.out.size⟩, HBd.out.block b hb.2⟩)
                        clear HK HBd a1 a2' a3 a4 a5 a6 b1 b2 b3 b4 b5 r0 r1 r2 r3 q2 f0 f1 c0 c1 c2
                        have hfa := HPx.out
                        obtain ⟨-, -, ⟨-, q2⟩, ⟨a1, a2', a3, a4, a5, a6⟩, ⟨b1, b2, b3, b4, b5⟩, ⟨r0, r1, r2, r3, -, -⟩⟩ := hfa
                        have f1 := HZ.out
                        have f0 : w.heap.size < wd.heap.size := by omega
                        obtain ⟨c0, c1, c2⟩ := HC.out
                        obtain ⟨wc, rfl⟩ : ∃ wo : World, wo = wd := ⟨_, rfl⟩
                        by_cases hps : ps = []
                        · rw [if_neg (fun h => h hps)] at hV
                          have HV2 := Lib.hid hV
                          have hp1 : (ps.length : Int) = 0 := by rw [hps]; rfl
                          clear hV hnm hne
                          have hrw := HRx.out
                          rcases hrw with ⟨-, hv0, lq, hlq, hA⟩ | ⟨h0, -⟩
                          · rw [hps] at hv0
                            have hlen : lq.length ≤ ls.length := by rw [← hlq, List.length_map]; exact Nat.le_refl _
                            have HOW : Hid (∀ b, (Value.slice ou ls.length cu).ownBlock = some b → b < wA.heap.size) := Lib.hid fun b hb => by
                              rcases HRW.out with ⟨-, -, l', -, h'⟩ | ⟨h0, -⟩
                              · exact (World.ownsRow.lt h'.1 b hb).2
                              · exact absurd hps h0
                            have HA := Lib.hid hA
                            have HLQ := Lib.hid hlq
                            have HPS := Lib.hid hps
                            have HV0 := Lib.hid hv0
                            clear hA hlq hv0 hps
                            obtain ⟨il, hi0, hz0, hz1, hz2⟩ := info_parts3 line_info
                            have x1 : ¬ rb = X0 := by omega
                            have x2 : ¬ X0 = rb := by omega
                            have wa2 : IntKind.i64.wrap ((a2 : Int) + 1) = (a2 : Int) + 1 := IntWalk.i64_in _ (by omega)
                            go_wp2_with (at_builtin; refine wpList_append_lies _ rfl _ _ 22 rfl (X0 + 1) 64 il (.agg #[.string ⟨#[]⟩, .slice none 0 0, .string ⟨#[]⟩]) 3 56 Tryd.underlying22 hi0 hz0 hz1 hz2 rfl (by decide) _ lq.length (lq.flatMap cLn) rfl (HA.out.1.alloc _) _ 1 1 [.string L2.name, .slice oa2 L2.prms.length c2', .string L2.value] rfl rfl (cells_at (by simp) _ _) (by simp [Value.oneCell']) (by decide) (by unfold maxLen; omega) (by omega) (by simp; omega) _ rfl ?_; intro g5 c5 w6 hown hgrow hat _; have hb6 : Below wc.heap.size wc (wc.alloc (.cells #[.string L2.name, .slice oa2 L2.prms.length c2', .string L2.value] 64)) := (Below.refl _ _).alloc (Nat.le_refl _) _; have hp6 := (HPx.out.call hb6).app hgrow (fun k hk => by have := (World.ownsRow.lt HA.out.1 k hk).1; omega); have hr6 := (HA.out.call qLn_keep hb6).more qLn_keep (a := (L2, .slice oa2 L2.prms.length c2')) hown hgrow hat (HQP.out.keep fun b hb => ⟨⟨by have := HP.out.2.2.1.2; omega, Nat.lt_of_lt_of_le hb.2 hb6.size, fun e => by have := HOW.out b e; omega⟩, hb6.block b hb.2⟩); have HM6 := Lib.hid ((hp6.putU (.slice (some ⟨g5, 0, none⟩) (lq.length + 1) c5)).at (a2 + 1)); have HR6 := Lib.hid (hr6.grown qLn_keep (grown_set w6 ⟨X0, 1, none⟩ (.slice (some ⟨g5, 0, none⟩) (lq.length + 1) c5)) (Nat.lt_succ_self _)); obtain ⟨-, -, ⟨-, y5⟩, -, ⟨-, y6, y7, -, -⟩, ⟨s0, s1, s2, s3, -, -⟩⟩ := hp6; clear hr6 hown hgrow hat hb6)
                            go_roundg (lines.length - (a2 + 1))
                            case measure => omega
                            case rel => exact ⟨a2 + 1, f', _, _, ls ++ [L2], ps, by omega, by omega, by omega, by rw [List.length_append, List.length_singleton]; omega, HM6, Lib.hid (.inl ⟨HPS.out, by rw [HPS.out]; exact HV0.out, lq ++ [(L2, .slice oa2 L2.prms.length c2')], by rw [List.map_append, HLQ.out]; rfl, HR6.out.grown qLn_keep (grown_set _ _ _) (by show rb < _; omega)⟩), HV2⟩
                          · exact absurd hps h0
                        · rw [if_pos hps] at hV
                          have HR := Lib.hid hV
                          have hp1 : (0 : Int) < (ps.length : Int) := by have := List.length_pos_iff.2 hps; omega
                          clear hV hnm hne hps
                          go_wp2_with fail
                          have HQ := Lib.hid (HPx.out.2.2.2.1.fill (c0 := .string G) (c1 := .slice ou ls.length cu) (c2 := .slice ov ps.length cv) rfl)
                          have hq1 := HQ.out.1
                          have hq2 := HQ.out.2.1
                          have hq3 := HQ.out.2.2.1
                          exact bodyPost_ret (v := .tuple #[.agg #[.string G, .slice ou ls.length cu, .slice ov ps.length cv], .int .i64 7]) (by simp [results, Tryd.results26, go_sem, hq1, hq2, hq3]) rfl (HPx.out.bad HQ.out.2.2.2 (by rw [HR.out]) (by decide) (by rw [HR.out]))
                  · rw [if_pos hE0] at hV
                    have HR := Lib.hid hV
                    have HE0 := Lib.hid hE0
                    have e0 : (E2 == 0) = false := beq_eq_false_iff_ne.2 hE0
                    clear hV hE0
                    go_wp2_with fail
                    have HQ := Lib.hid (HPx.out.2.2.2.1.fill (c0 := .string G) (c1 := .slice ou ls.length cu) (c2 := .slice ov ps.length cv) rfl)
                    have hq1 := HQ.out.1
                    have hq2 := HQ.out.2.1
                    have hq3 := HQ.out.2.2.1
                    exact bodyPost_ret (v := .tuple #[.agg #[.string G, .slice ou ls.length cu, .slice ov ps.length cv], .int .i64 E2]) (by simp [results, Tryd.results26, go_sem, hq1, hq2, hq3]) rfl (HPx.out.bad HQ.out.2.2.2 (by rw [HR.out]) HE0.out (by rw [HR.out]))
                · have HR : Hid (partP lines (j + 1) a = ⟨13, part0, a2⟩) := Lib.hid (HVV.out.trans (loopP_out hal2))
                  obtain rfl : a2 = lines.length := by omega
                  go_wp2_with fail
                  have HQ := Lib.hid (HP.out.2.2.2.1.fill (c0 := .string G) (c1 := .slice ou ls.length cu) (c2 := .slice ov ps.length cv) rfl)
                  have hq1 := HQ.out.1
                  have hq2 := HQ.out.2.1
                  have hq3 := HQ.out.2.2.1
                  exact bodyPost_ret (v := .tuple #[.agg #[.string G, .slice ou ls.length cu, .slice ov ps.length cv], .int .i64 13]) (by simp [results, Tryd.results26, go_sem, hq1, hq2, hq3]) rfl (HP.out.bad HQ.out.2.2.2 (by rw [HR.out]) (by decide) (by rw [HR.out]))
        · have hp2 : (0 : Int) < (L.prms.length : Int) := by have := List.length_pos_iff.2 hpr; omega
          have HR := Lib.hid (HBAD.out 5 (headE_form hal hL0 (by rw [hLL]; exact .inr hpr)) (by decide))
          clear hL0 hLL hnm hpr
          go_wp2_with fail
          have HP2 := HPZ
          have HQ := Lib.hid (HP2.out.2.2.1.fill (c0 := .string ⟨#[]⟩) (c1 := .slice none 0 0) (c2 := .slice none 0 0) rfl)
          have hq1 := HQ.out.1
          have hq2 := HQ.out.2.1
          have hq3 := HQ.out.2.2.1
          exact bodyPost_ret (v := .tuple #[.agg #[.string ⟨#[]⟩, .slice none 0 0, .slice none 0 0], .int .i64 5]) (by simp [results, Tryd.results26, go_sem, hq1, hq2, hq3]) rfl (HP2.out.bad HQ.out.2.2.2 (by rw [HR.out]) (by decide) (by rw [HR.out]))
      · have hn2 : ¬ L.name.toList = [66, 69, 71, 73, 78] := by rw [Lib.toList_data]; exact hnm
        have HR := Lib.hid (HBAD.out 5 (headE_form hal hL0 (by rw [hLL]; exact .inl hnm)) (by decide))
        clear hL0 hLL hnm
        go_wp2_with fail
        have HP2 := HPZ
        have HQ := Lib.hid (HP2.out.2.2.1.fill (c0 := .string ⟨#[]⟩) (c1 := .slice none 0 0) (c2 := .slice none 0 0) rfl)
        have hq1 := HQ.out.1
        have hq2 := HQ.out.2.1
        have hq3 := HQ.out.2.2.1
        exact bodyPost_ret (v := .tuple #[.agg #[.string ⟨#[]⟩, .slice none 0 0, .slice none 0 0], .int .i64 5]) (by simp [results, Tryd.results26, go_sem, hq1, hq2, hq3]) rfl (HP2.out.bad HQ.out.2.2.2 (by rw [HR.out]) (by decide) (by rw [HR.out]))
    · have hEE : headE lines a = E := by rw [headE_ln hal (by rw [HEL.out]; exact hE0), HEL.out]
      have HR := Lib.hid (partP_bad (k := k) (show headE lines a ≠ 0 by rw [hEE]; exact hE0))
      rw [hEE] at HR
      have HE0 := Lib.hid hE0
      have e0 : (E == 0) = false := beq_eq_false_iff_ne.2 hE0
      clear hEE hE0
      go_wp2_with fail
      have HQ := Lib.hid (HPZ.out.2.2.1.fill (c0 := .string ⟨#[]⟩) (c1 := .slice none 0 0) (c2 := .slice none 0 0) rfl)
      have hq1 := HQ.out.1
      have hq2 := HQ.out.2.1
      have hq3 := HQ.out.2.2.1
      exact bodyPost_ret (v := .tuple #[.agg #[.string ⟨#[]⟩, .slice none 0 0, .slice none 0 0], .int .i64 E]) (by simp [results, Tryd.results26, go_sem, hq1, hq2, hq3]) rfl (HPZ.out.bad HQ.out.2.2.2 (by rw [HR.out]) HE0.out (by rw [HR.out]))
  · obtain rfl : a = lines.length := by omega
    obtain ⟨r0, -, r2, r3, r4, -⟩ := hR
    obtain ⟨oa, cap, rfl⟩ := r4.form
    clear r4
    have HR := Lib.hid (partP_bad (k := k) (show headE lines lines.length ≠ 0 by rw [headE_out hal]; decide))
    rw [headE_out hal] at HR
    go_enter Tryd.func26, Tryd.ntmps26
    go_wp2_with fail
    have hz := HP.out.2.2.1
    obtain ⟨hq1, -, hq2, -, hq3, -⟩ := hz
    exact bodyPost_ret (v := .tuple #[.agg #[.string ⟨#[]⟩, .slice none 0 0, .slice none 0 0], .int .i64 13]) (by simp [results, Tryd.results26, go_sem, hq1, hq2, hq3]) rfl (HP.out.bad (grown_call (Below.refl _ _) _) (by rw [HR.out]) (by decide) (by rw [HR.out]))
  /-- readPart, at every depth. -/
  theorem readPart_any {rb lo : Nat} {vL : Value} {lines : List (List UInt8)} (hn : lines.length ≤ 1048576) (hl : ∀ i, i < lines.length → (lines.getD i []).length ≤ 1048576) : ∀ (k : Nat), k ≤ 8 → QartC rb lo vL lines k := by
    intro k
    induction k with
    | zero => exact fun h => readPart_at hn hl 0 h (fun j h => absurd h (by omega))
    | succ k ih => exact fun h => readPart_at hn hl (k + 1) h (fun j hj => by obtain rfl : j = k := (by omega); exact ih (by omega))
  end Go.Proofs.YtidgahnamdhflaaDoor
