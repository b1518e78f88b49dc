/- The law DaysKeep: no two dates are one day. Plain laws of adding periods to times. Adding periods: the program's sums and months. Adding a period to a time: the program's. -/
import Derived.Test.YtkfpnlenmdlmjaaGreatDoorZG6
import Derived.Test.YtkfpnlenmdlmjaaGreatDoorZG7
namespace Go.Proofs.YtkfpnlenmdlmjaaGreatDoor
open Go.RowKit
theorem lenE_valid {c y m d : Int} (c1 : 1 ≤ c) (c2 : c ≤ 10) (h : Dm.Valid c y m d) : lenE c y m = 0 := by
  obtain ⟨y1, y2, m1, m2, _⟩ := h
  unfold lenE; rw [yearE_ok c1 c2 y1 y2]; simp; omega
theorem dayE_back {c y m d n : Int} (c1 : 1 ≤ c) (c2 : c ≤ 10) (h : Dm.Valid c y m d) (hd : Dm.dayOf c y m d = n) (n1 : -4000000 ≤ n) (n2 : n ≤ 4000000) : dayE c y m d = 0 ∧ dayR c y m d = n := by
  have hl := lenE_valid c1 c2 h
  have := dayE_ok hl h.2.2.2.2.1 h.2.2.2.2.2
  rw [hd, if_pos ⟨n1, n2⟩, if_pos ⟨n1, n2⟩] at this
  exact this
theorem OfR.back {c y m d a y' m' d' : Int} (c1 : 1 ≤ c) (c2 : c ≤ 10) (h : Dm.Valid c y m d) (n1 : -4000000 ≤ Dm.dayOf c y m d) (n2 : Dm.dayOf c y m d ≤ 4000000) (h' : OfR c (Dm.dayOf c y m d) a y' m' d') : a = c ∧ y' = y ∧ m' = m ∧ d' = d := by
  have := h'.one (.inr ⟨ofE_ok c1 c2 n1 n2, rfl, c1, c2, h, rfl⟩)
  exact this
end Go.Proofs.YtkfpnlenmdlmjaaGreatDoor
namespace Go.Proofs.YtkfpnlenmdlmjaaGreatDoor
open Go.RowKit
def Small (f : Nat → Int) : Prop := ∀ i, i < 5 → -1000000000000 ≤ f i ∧ f i ≤ 1000000000000
/-- The day so many months behind a day. -/
def MonD (y m d k r x : Int) : Prop := ((Dm.monY y m k < -20000 ∨ 20000 < Dm.monY y m k) ∧ r = 0 ∧ x = 4) ∨ (-20000 ≤ Dm.monY y m k ∧ Dm.monY y m k ≤ 20000 ∧ r = rangeR (Dm.monDay y m d k) ∧ x = rangeE (Dm.monDay y m d k))
def MonR (n k r x : Int) : Prop := ∃ y m d, Dm.Valid 1 y m d ∧ Dm.dayOf 1 y m d = n ∧ MonD y m d k r x
theorem MonR.one {n k r x r' x' : Int} (h : MonR n k r x) (h' : MonR n k r' x') : r = r' ∧ x = x' := by
  obtain ⟨y, m, d, hv, hd, hm⟩ := h
  obtain ⟨y', m', d', hv', hd', hm'⟩ := h'
  obtain ⟨rfl, rfl, rfl⟩ := Dm.date_one 1 y m d y' m' d' (by omega) (by omega) hv hv' (hd.trans hd'.symm)
  unfold MonD at hm hm'
  rcases hm with ⟨a, rfl, rfl⟩ | ⟨a, b, rfl, rfl⟩ <;> rcases hm' with ⟨a', rfl, rfl⟩ | ⟨a', b', rfl, rfl⟩ <;> first | exact ⟨rfl, rfl⟩ | omega
theorem MonD.four {y m d k r x : Int} (h : MonD y m d k r x) (hx : x ≠ 0) : r = 0 ∧ x = 4 := by
  rcases h with ⟨_, rfl, rfl⟩ | ⟨_, _, rfl, rfl⟩
  · exact ⟨rfl, rfl⟩
  · rcases (show (-4000000 ≤ Dm.monDay y m d k ∧ Dm.monDay y m d k ≤ 4000000) ∨ (Dm.monDay y m d k < -4000000 ∨ 4000000 < Dm.monDay y m d k) by omega) with g | g
    · exact absurd (range_in g.1 g.2).2 hx
    · exact range_out g
theorem MonR.four {n k r x : Int} (h : MonR n k r x) (hx : x ≠ 0) : r = 0 ∧ x = 4 := by
  obtain ⟨_, _, _, _, _, hm⟩ := h
  exact hm.four hx
theorem MonR.in {n k r : Int} (h : MonR n k r 0) : -4000000 ≤ r ∧ r ≤ 4000000 := by
  obtain ⟨y, m, d, _, _, hm⟩ := h
  rcases hm with ⟨_, _, h⟩ | ⟨_, _, rfl, hx⟩
  · exact absurd h (by decide)
  · unfold rangeE at hx
    split at hx
    · rename_i g; rw [(range_in g.1 g.2).1]; exact g
    · exact absurd hx (by decide)
theorem tm_neg {N : Int} (h : N.tmod 12 < 0) : N.tmod 12 + 1 + 12 = N % 12 + 1 ∧ (N - (N % 12 + 1) + 1).tdiv 12 = N / 12 := by
  have h1 := tmod_neg N 12 (by omega) h
  refine ⟨by omega, ?_⟩
  rw [show N - (N % 12 + 1) + 1 = 12 * (N / 12) by omega]
  exact Int.mul_tdiv_cancel_left _ (by decide)
theorem tm_pos {N : Int} (h : ¬ N.tmod 12 < 0) : N.tmod 12 + 1 = N % 12 + 1 ∧ (N - (N % 12 + 1) + 1).tdiv 12 = N / 12 := by
  have h1 := tmod_pos N 12 (by omega) (by omega)
  refine ⟨by omega, ?_⟩
  rw [show N - (N % 12 + 1) + 1 = 12 * (N / 12) by omega]
  exact Int.mul_tdiv_cancel_left _ (by decide)
/-- The five parts of a period. -/
def pf (Y M W D S : Int) (i : Nat) : Int := if i = 0 then Y else if i = 1 then M else if i = 2 then W else if i = 3 then D else S
theorem five_cells (Y M W D S : Int) (w : World) (T : TypeId) (i : Nat) (hi : i < 5) : (w.alloc (.cells #[.int .i64 Y, .int .i64 M, .int .i64 W, .int .i64 D, .int .i64 S] T)).cell? ⟨w.heap.size, i, none⟩ = some (.int .i64 (pf Y M W D S i)) := by
  match i, hi with
  | 0, _ => rw [World.cell?_alloc_at _ _ _ _ (by simp)]; rfl
  | 1, _ => rw [World.cell?_alloc_at _ _ _ _ (by simp)]; rfl
  | 2, _ => rw [World.cell?_alloc_at _ _ _ _ (by simp)]; rfl
  | 3, _ => rw [World.cell?_alloc_at _ _ _ _ (by simp)]; rfl
  | 4, _ => rw [World.cell?_alloc_at _ _ _ _ (by simp)]; rfl
theorem small_iff {Y M W D S : Int} (h : Small (pf Y M W D S)) : (-1000000000000 ≤ Y ∧ Y ≤ 1000000000000) ∧ (-1000000000000 ≤ M ∧ M ≤ 1000000000000) ∧ (-1000000000000 ≤ W ∧ W ≤ 1000000000000) ∧ (-1000000000000 ≤ D ∧ D ≤ 1000000000000) ∧ (-1000000000000 ≤ S ∧ S ≤ 1000000000000) :=
  ⟨h 0 (by omega), h 1 (by omega), h 2 (by omega), h 3 (by omega), h 4 (by omega)⟩
/-- Weeks, days and seconds behind a second of a day. -/
def addN (q ts W D S : Int) : Int := (q + (7 * W + D)) * 86400 + ts + S
def AddOk (q ts W D S : Int) : Prop := -4000000 ≤ q + (7 * W + D) ∧ q + (7 * W + D) ≤ 4000000 ∧ -345600000000 ≤ addN q ts W D S ∧ addN q ts W D S ≤ 345600086399
def AddF (q ts W D S r x : Int) : Prop := (AddOk q ts W D S ∧ r = addN q ts W D S ∧ x = 0) ∨ (¬ AddOk q ts W D S ∧ r = 0 ∧ x = 4)
theorem AddF.one {q ts W D S r x r' x' : Int} (h : AddF q ts W D S r x) (h' : AddF q ts W D S r' x') : r = r' ∧ x = x' := by
  unfold AddF at h h'
  rcases h with ⟨a, rfl, rfl⟩ | ⟨a, rfl, rfl⟩ <;> rcases h' with ⟨b, rfl, rfl⟩ | ⟨b, rfl, rfl⟩ <;> first | exact ⟨rfl, rfl⟩ | exact absurd a b | exact absurd b a
/-- The time that comes a period behind another one. -/
def AddR (t Y M W D S r x : Int) : Prop :=
  ((¬ Small (pf Y M W D S) ∨ t < -345600000000 ∨ 345600086399 < t) ∧ r = 0 ∧ x = 4) ∨
  (Small (pf Y M W D S) ∧ -345600000000 ≤ t ∧ t ≤ 345600086399 ∧ ∃ q z, ((Y = 0 ∧ M = 0 ∧ q = t / 86400 ∧ z = 0) ∨ (¬ (Y = 0 ∧ M = 0) ∧ MonR (t / 86400) (12 * Y + M) q z)) ∧ ((z ≠ 0 ∧ r = 0 ∧ x = 4) ∨ (z = 0 ∧ AddF q (t % 86400) W D S r x)))
theorem AddR.one {t Y M W D S r x r' x' : Int} (h : AddR t Y M W D S r x) (h' : AddR t Y M W D S r' x') : r = r' ∧ x = x' := by
  rcases h with ⟨a, rfl, rfl⟩ | ⟨s, a1, a2, q, z, hq, hz⟩ <;> rcases h' with ⟨b, rfl, rfl⟩ | ⟨s', b1, b2, q', z', hq', hz'⟩
  · exact ⟨rfl, rfl⟩
  · rcases a with a | a | a
    · exact absurd s' a
    · omega
    · omega
  · rcases b with b | b | b
    · exact absurd s b
    · omega
    · omega
  · have e : q = q' ∧ z = z' := by
      rcases hq with ⟨y0, m0, rfl, rfl⟩ | ⟨hn, hm⟩ <;> rcases hq' with ⟨y0', m0', rfl, rfl⟩ | ⟨hn', hm'⟩
      · exact ⟨rfl, rfl⟩
      · exact absurd ⟨y0, m0⟩ hn'
      · exact absurd ⟨y0', m0'⟩ hn
      · exact hm.one hm'
    obtain ⟨rfl, rfl⟩ := e
    rcases hz with ⟨z0, rfl, rfl⟩ | ⟨z0, hf⟩ <;> rcases hz' with ⟨z0', rfl, rfl⟩ | ⟨z0', hf'⟩
    · exact ⟨rfl, rfl⟩
    · exact absurd z0' z0
    · exact absurd z0 z0'
    · exact hf.one hf'
end Go.Proofs.YtkfpnlenmdlmjaaGreatDoor
namespace Go.Proofs.YtkfpnlenmdlmjaaGreatDoor
open Go.RowKit
def SumPost (f : Nat → Int) (w : World) (e : Ending) (w' : World) : Prop := ∃ v x, e = .returned (.tuple #[.int .i64 v, errV x]) ∧ (x = 0 ∧ Small f ∨ x = 4 ∧ ¬ Small f) ∧ w = w'
set_option maxRecDepth 100000 in
set_option maxHeartbeats 1000000 in
theorem sum_all5 (f : Nat → Int) (B cap : Nat) (w : World) (hc : ∀ i, i < 5 → w.cell? ⟨B, i, none⟩ = some (.int .i64 (f i))) : Calls Tryz.prog 99 #[.slice (some ⟨B, 0, none⟩) 5 cap] w (SumPost f w) := by
  have HC := Lib.hid hc; clear hc
  go_enter Tryz.func99, Tryz.ntmps99
  go_wp2_with fail
  go_loop [4, 9] (fun n i => ∃ (k : Nat) (s : Int), k ≤ 5 ∧ i = .int .i64 k ∧ n = .int .i64 s ∧ -1000000000000 * k ≤ s ∧ s ≤ 1000000000000 * k ∧ Hid (∀ i, i < k → -1000000000000 ≤ f i ∧ f i ≤ 1000000000000)) (fun _ i => 5 - (intOf i).toNat)
  case atStart => exact ⟨0, 0, by omega, rfl, rfl, by omega, by omega, Lib.hid (fun i hi => absurd hi (Nat.not_lt_zero i))⟩
  case round =>
    obtain ⟨k, s, hk, rfl, rfl, hs1, hs2, HS⟩ := hrel
    by_cases hlt : k < 5
    · have hcell := HC.out k hlt
      obtain ⟨F, hF⟩ : ∃ F, f k = F := ⟨_, rfl⟩
      rw [hF] at hcell
      have HF := Lib.hid hF; clear hF
      rcases (show F < -1000000000000 ∨ (¬ F < -1000000000000 ∧ 1000000000000 < F) ∨ (-1000000000000 ≤ F ∧ F ≤ 1000000000000) by omega) with g | ⟨g1, g⟩ | ⟨g1, g2⟩
      · go_wp2_with fail
        go_ret2
        exact ⟨0, 4, rfl, .inr ⟨rfl, fun h => by have := h k hlt; rw [HF.out] at this; omega⟩, rfl⟩
      · go_wp2_with fail
        go_ret2
        exact ⟨0, 4, rfl, .inr ⟨rfl, fun h => by have := h k hlt; rw [HF.out] at this; omega⟩, rfl⟩
      · have HS2 : Hid (∀ i, i < k + 1 → -1000000000000 ≤ f i ∧ f i ≤ 1000000000000) := by
          refine Lib.hid fun i hi => ?_
          by_cases h : i = k
          · rw [h, HF.out]; exact ⟨g1, g2⟩
          · exact HS.out i (by omega)
        go_wp2_with fail
        go_round
        case rel => exact ⟨k + 1, s + F, by omega, by go_num, rfl, by push_cast; omega, by push_cast; omega, HS2⟩
        case measure => simp [intOf]; omega
    · obtain rfl : k = 5 := by omega
      go_wp2_with fail
      go_ret2
      exact ⟨s, 0, rfl, .inl ⟨rfl, HS.out⟩, rfl⟩
set_option maxRecDepth 100000 in
set_option maxHeartbeats 4000000 in
theorem cmonths_ok (n k : Int) (w : World) (hr : RomanT w) (h1 : -4000000 ≤ n) (h2 : n ≤ 4000000) (h3 : -14000000000000 ≤ k) (h4 : k ≤ 14000000000000) : Calls Tryz.prog 100 #[.int .i64 n, .int .i64 k] w fun e w' => ∃ r x, e = .returned (.tuple #[.int .i64 r, errV x]) ∧ MonR n k r x ∧ Below w.heap.size w w' := by
  have HR := Lib.hid hr; clear hr
  have HE := Lib.hid (ofE_ok (c := 1) (n := n) (by omega) (by omega) h1 h2)
  go_enter Tryz.func100, Tryz.ntmps100
  go_wp2_with fail
  refine (dof_all _ _ _ (by repeat (first | exact HR.out | (with_reducible refine RomanT.alloc ?_ _)))).mono ?_; rintro en w1 ⟨a, y, m, d, rfl, hR, hb1⟩
  rw [HE.out, errV_nil]
  have hv : a = 1 ∧ Dm.Valid 1 y m d ∧ Dm.dayOf 1 y m d = n := by
    rcases hR with ⟨e, _⟩ | ⟨_, ha, _, _, hv, hd⟩
    · exact absurd HE.out e
    · exact ⟨ha, hv, hd⟩
  clear hR
  obtain ⟨rfl, hv, hd⟩ := hv
  have HV := Lib.hid (And.intro hv hd); clear hd
  obtain ⟨y1, y2, m1, m2, d1, d2⟩ := hv
  rw [Dm.greg12] at m2
  have d3 := Dm.greg_len y m m1 m2
  have d4 : d ≤ 31 := by omega
  clear d2 d3
  unfold dateV
  have hz1 := hb1.size
  have HR1 := Lib.hid (RomanT.call HR.out hb1)
  have HB1 := Lib.hid hb1; clear hb1
  have hNM : Dm.monY y m k = (k + (12 * y + m - 1)) / 12 ∧ Dm.monM y m k = (k + (12 * y + m - 1)) % 12 + 1 := by unfold Dm.monY Dm.monM; rw [show 12 * y + m - 1 + k = k + (12 * y + m - 1) by omega]; exact ⟨rfl, rfl⟩
  have hMb := Dm.mon_bd y m k
  have t1 := tmod_fact (k + (12 * y + m - 1)) 12 (by omega)
  by_cases hn : (k + (12 * y + m - 1)).tmod 12 < 0
  · have hT : (k + (12 * y + m - 1)).tmod 12 + 1 + 12 = (k + (12 * y + m - 1)) % 12 + 1 ∧ (k + (12 * y + m - 1) - ((k + (12 * y + m - 1)) % 12 + 1) + 1).tdiv 12 = (k + (12 * y + m - 1)) / 12 := tm_neg hn
    obtain ⟨Y, hY0⟩ : ∃ Y, Dm.monY y m k = Y := ⟨_, rfl⟩
    obtain ⟨M, hM0⟩ : ∃ M, Dm.monM y m k = M := ⟨_, rfl⟩
    rw [hY0, hM0] at hNM hMb
    rw [← hNM.1, ← hNM.2] at hT
    have HN := Lib.hid (And.intro hT (And.intro hY0 hM0)); clear hT hNM hY0 hM0
    have hL := Dm.greg_len Y M hMb.1 hMb.2.1
    obtain ⟨L, hL0⟩ : ∃ L, Dm.length 1 Y M = L := ⟨_, rfl⟩
    rw [hL0] at hL
    have HL := Lib.hid hL0; clear hL0
    have HM := Lib.hid hMb; clear hMb
    go_wp2_with fail
    rw [HN.out.1.1, HN.out.1.2]
    rcases (show (Y < -20000 ∨ 20000 < Y) ∨ (-20000 ≤ Y ∧ Y ≤ 20000) by omega) with hy | ⟨hy1, hy2⟩
    · have hyE : yearE 1 Y = 4 := yearE_range (by omega) (by omega) hy
      have hlE : lenE 1 Y M = 4 := by rw [lenE_bad (by rw [hyE]; decide), hyE]
      have hlR : lenR 1 Y M = 0 := by unfold lenR; rw [hlE, if_neg (by decide)]
      have HE2 := Lib.hid (And.intro hlE hlR); clear hyE hlE hlR
      have HY := Lib.hid hy; clear hy
      refine (length_all _ _ _ _ (HR1.out.alloc _)).mono ?_; rintro en w2 ⟨rfl, hb2⟩
      rw [HE2.out.1, HE2.out.2, errV_hit (show (4 : Int) ≠ 0 by decide)]
      have HB2 := Lib.hid (thenB HB1.out (offA hb2)); clear hb2
      go_wp2_with fail
      go_ret2
      exact ⟨0, 4, rfl, ⟨y, m, d, HV.out.1, HV.out.2, .inl ⟨by rw [HN.out.2.1]; exact HY.out, rfl, rfl⟩⟩, HB2.out⟩
    · have hlE : lenE 1 Y M = 0 := by unfold lenE; rw [yearE_ok (by omega) (by omega) hy1 hy2, if_neg (by simp), Dm.greg12, if_neg (by have := HM.out; omega)]
      have hlR : lenR 1 Y M = L := by unfold lenR; rw [hlE, if_pos rfl]; exact HL.out
      have HE2 := Lib.hid (And.intro hlE hlR); clear hlE hlR
      refine (length_all _ _ _ _ (HR1.out.alloc _)).mono ?_; rintro en w2 ⟨rfl, hb2⟩
      rw [HE2.out.1, HE2.out.2, errV_nil]
      have hz2 := hb2.size
      simp only [World.size_alloc] at hz2
      obtain ⟨q2, p2⟩ := carry hb2 w1.heap.size (by simp)
      have hs2 : w1.heap.size < w2.heap.size := by omega
      have HR2 := Lib.hid (RomanT.call (HR1.out.alloc _) hb2)
      have HB2 := Lib.hid (thenB HB1.out (offA hb2)); clear hb2
      by_cases hdl : d ≤ L
      · have hcl : Dm.clipD Y M d = d := by unfold Dm.clipD; rw [HL.out, if_pos hdl]
        have hmd : Dm.monDay y m d k = Dm.dayOf 1 Y M d := by unfold Dm.monDay; rw [HN.out.2.1, HN.out.2.2, hcl]
        have hv := Dm.mon_valid (y := y) (m := m) (d := d) (k := k) (by rw [HN.out.2.1]; exact hy1) (by rw [HN.out.2.1]; exact hy2) d1
        rw [HN.out.2.1, HN.out.2.2, hcl] at hv
        have hday := dayE_ok HE2.out.1 hv.2.2.2.2.1 hv.2.2.2.2.2
        have HD : Hid (dayE 1 Y M d = rangeE (Dm.monDay y m d k) ∧ dayR 1 Y M d = rangeR (Dm.monDay y m d k)) := Lib.hid (by rw [hmd]; exact hday)
        clear hcl hmd hv hday
        go_wp2_with fail
        refine (day_all _ _ _ _ _ (by have hh := HR1.out.lt; exact fun i hi => (cell_set (by simp; omega)).trans (HR2.out i hi))).mono ?_; rintro en w3 ⟨rfl, hb3⟩
        rw [HD.out.1, HD.out.2]
        have HB3 := Lib.hid (thenB (HB2.out.setCell (by simp; omega) _) hb3); clear hb3
        go_wp2_with fail
        go_ret2
        exact ⟨_, _, rfl, ⟨y, m, d, HV.out.1, HV.out.2, .inr ⟨by rw [HN.out.2.1]; exact hy1, by rw [HN.out.2.1]; exact hy2, rfl, rfl⟩⟩, HB3.out⟩
      · have hcl : Dm.clipD Y M d = L := by unfold Dm.clipD; rw [HL.out, if_neg hdl]
        have hmd : Dm.monDay y m d k = Dm.dayOf 1 Y M L := by unfold Dm.monDay; rw [HN.out.2.1, HN.out.2.2, hcl]
        have hv := Dm.mon_valid (y := y) (m := m) (d := d) (k := k) (by rw [HN.out.2.1]; exact hy1) (by rw [HN.out.2.1]; exact hy2) d1
        rw [HN.out.2.1, HN.out.2.2, hcl] at hv
        have hday := dayE_ok HE2.out.1 hv.2.2.2.2.1 hv.2.2.2.2.2
        have HD : Hid (dayE 1 Y M L = rangeE (Dm.monDay y m d k) ∧ dayR 1 Y M L = rangeR (Dm.monDay y m d k)) := Lib.hid (by rw [hmd]; exact hday)
        clear hcl hmd hv hday
        go_wp2_with fail
        refine (day_all _ _ _ _ _ (by have hh := HR1.out.lt; exact fun i hi => (cell_set (by simp; omega)).trans (HR2.out i hi))).mono ?_; rintro en w3 ⟨rfl, hb3⟩
        rw [HD.out.1, HD.out.2]
        have HB3 := Lib.hid (thenB (HB2.out.setCell (by simp; omega) _) hb3); clear hb3
        go_wp2_with fail
        go_ret2
        exact ⟨_, _, rfl, ⟨y, m, d, HV.out.1, HV.out.2, .inr ⟨by rw [HN.out.2.1]; exact hy1, by rw [HN.out.2.1]; exact hy2, rfl, rfl⟩⟩, HB3.out⟩
  · have hT : (k + (12 * y + m - 1)).tmod 12 + 1 = (k + (12 * y + m - 1)) % 12 + 1 ∧ (k + (12 * y + m - 1) - ((k + (12 * y + m - 1)) % 12 + 1) + 1).tdiv 12 = (k + (12 * y + m - 1)) / 12 := tm_pos hn
    obtain ⟨Y, hY0⟩ : ∃ Y, Dm.monY y m k = Y := ⟨_, rfl⟩
    obtain ⟨M, hM0⟩ : ∃ M, Dm.monM y m k = M := ⟨_, rfl⟩
    rw [hY0, hM0] at hNM hMb
    rw [← hNM.1, ← hNM.2] at hT
    have HN := Lib.hid (And.intro hT (And.intro hY0 hM0)); clear hT hNM hY0 hM0
    have hL := Dm.greg_len Y M hMb.1 hMb.2.1
    obtain ⟨L, hL0⟩ : ∃ L, Dm.length 1 Y M = L := ⟨_, rfl⟩
    rw [hL0] at hL
    have HL := Lib.hid hL0; clear hL0
    have HM := Lib.hid hMb; clear hMb
    go_wp2_with fail
    rw [HN.out.1.1, HN.out.1.2]
    rcases (show (Y < -20000 ∨ 20000 < Y) ∨ (-20000 ≤ Y ∧ Y ≤ 20000) by omega) with hy | ⟨hy1, hy2⟩
    · have hyE : yearE 1 Y = 4 := yearE_range (by omega) (by omega) hy
      have hlE : lenE 1 Y M = 4 := by rw [lenE_bad (by rw [hyE]; decide), hyE]
      have hlR : lenR 1 Y M = 0 := by unfold lenR; rw [hlE, if_neg (by decide)]
      have HE2 := Lib.hid (And.intro hlE hlR); clear hyE hlE hlR
      have HY := Lib.hid hy; clear hy
      refine (length_all _ _ _ _ (HR1.out.alloc _)).mono ?_; rintro en w2 ⟨rfl, hb2⟩
      rw [HE2.out.1, HE2.out.2, errV_hit (show (4 : Int) ≠ 0 by decide)]
      have HB2 := Lib.hid (thenB HB1.out (offA hb2)); clear hb2
      go_wp2_with fail
      go_ret2
      exact ⟨0, 4, rfl, ⟨y, m, d, HV.out.1, HV.out.2, .inl ⟨by rw [HN.out.2.1]; exact HY.out, rfl, rfl⟩⟩, HB2.out⟩
    · have hlE : lenE 1 Y M = 0 := by unfold lenE; rw [yearE_ok (by omega) (by omega) hy1 hy2, if_neg (by simp), Dm.greg12, if_neg (by have := HM.out; omega)]
      have hlR : lenR 1 Y M = L := by unfold lenR; rw [hlE, if_pos rfl]; exact HL.out
      have HE2 := Lib.hid (And.intro hlE hlR); clear hlE hlR
      refine (length_all _ _ _ _ (HR1.out.alloc _)).mono ?_; rintro en w2 ⟨rfl, hb2⟩
      rw [HE2.out.1, HE2.out.2, errV_nil]
      have hz2 := hb2.size
      simp only [World.size_alloc] at hz2
      obtain ⟨q2, p2⟩ := carry hb2 w1.heap.size (by simp)
      have hs2 : w1.heap.size < w2.heap.size := by omega
      have HR2 := Lib.hid (RomanT.call (HR1.out.alloc _) hb2)
      have HB2 := Lib.hid (thenB HB1.out (offA hb2)); clear hb2
      by_cases hdl : d ≤ L
      · have hcl : Dm.clipD Y M d = d := by unfold Dm.clipD; rw [HL.out, if_pos hdl]
        have hmd : Dm.monDay y m d k = Dm.dayOf 1 Y M d := by unfold Dm.monDay; rw [HN.out.2.1, HN.out.2.2, hcl]
        have hv := Dm.mon_valid (y := y) (m := m) (d := d) (k := k) (by rw [HN.out.2.1]; exact hy1) (by rw [HN.out.2.1]; exact hy2) d1
        rw [HN.out.2.1, HN.out.2.2, hcl] at hv
        have hday := dayE_ok HE2.out.1 hv.2.2.2.2.1 hv.2.2.2.2.2
        have HD : Hid (dayE 1 Y M d = rangeE (Dm.monDay y m d k) ∧ dayR 1 Y M d = rangeR (Dm.monDay y m d k)) := Lib.hid (by rw [hmd]; exact hday)
        clear hcl hmd hv hday
        go_wp2_with fail
        refine (day_all _ _ _ _ _ (by have hh := HR1.out.lt; exact fun i hi => (cell_set (by simp; omega)).trans (HR2.out i hi))).mono ?_; rintro en w3 ⟨rfl, hb3⟩
        rw [HD.out.1, HD.out.2]
        have HB3 := Lib.hid (thenB (HB2.out.setCell (by simp; omega) _) hb3); clear hb3
        go_wp2_with fail
        go_ret2
        exact ⟨_, _, rfl, ⟨y, m, d, HV.out.1, HV.out.2, .inr ⟨by rw [HN.out.2.1]; exact hy1, by rw [HN.out.2.1]; exact hy2, rfl, rfl⟩⟩, HB3.out⟩
      · have hcl : Dm.clipD Y M d = L := by unfold Dm.clipD; rw [HL.out, if_neg hdl]
        have hmd : Dm.monDay y m d k = Dm.dayOf 1 Y M L := by unfold Dm.monDay; rw [HN.out.2.1, HN.out.2.2, hcl]
        have hv := Dm.mon_valid (y := y) (m := m) (d := d) (k := k) (by rw [HN.out.2.1]; exact hy1) (by rw [HN.out.2.1]; exact hy2) d1
        rw [HN.out.2.1, HN.out.2.2, hcl] at hv
        have hday := dayE_ok HE2.out.1 hv.2.2.2.2.1 hv.2.2.2.2.2
        have HD : Hid (dayE 1 Y M L = rangeE (Dm.monDay y m d k) ∧ dayR 1 Y M L = rangeR (Dm.monDay y m d k)) := Lib.hid (by rw [hmd]; exact hday)
        clear hcl hmd hv hday
        go_wp2_with fail
        refine (day_all _ _ _ _ _ (by have hh := HR1.out.lt; exact fun i hi => (cell_set (by simp; omega)).trans (HR2.out i hi))).mono ?_; rintro en w3 ⟨rfl, hb3⟩
        rw [HD.out.1, HD.out.2]
        have HB3 := Lib.hid (thenB (HB2.out.setCell (by simp; omega) _) hb3); clear hb3
        go_wp2_with fail
        go_ret2
        exact ⟨_, _, rfl, ⟨y, m, d, HV.out.1, HV.out.2, .inr ⟨by rw [HN.out.2.1]; exact hy1, by rw [HN.out.2.1]; exact hy2, rfl, rfl⟩⟩, HB3.out⟩
end Go.Proofs.YtkfpnlenmdlmjaaGreatDoor
namespace Go.Proofs.YtkfpnlenmdlmjaaGreatDoor
open Go.RowKit
def AddPost (t Y M W D S : Int) (er : Int → Value) (w : World) (e : Ending) (w' : World) : Prop := ∃ r x, e = .returned (.tuple #[.int .i64 r, er x]) ∧ AddR t Y M W D S r x ∧ Below w.heap.size w w'
set_option maxRecDepth 100000 in
set_option maxHeartbeats 4000000 in
theorem add_all (t Y M W D S : Int) (w : World) (hr : RomanT w) : Calls Tryz.prog 64 #[.int .i64 t, .agg #[.int .i64 Y, .int .i64 M, .int .i64 W, .int .i64 D, .int .i64 S]] w (AddPost t Y M W D S errV w) := by
  have HR := Lib.hid hr; clear hr
  go_enter Tryz.func64, Tryz.ntmps64
  go_wp2_with fail
  have hc : ∀ i, i < 5 → ((w.alloc (.cells #[.int .i64 Y, .int .i64 M, .int .i64 W, .int .i64 D, .int .i64 S] 43)).alloc (.cells #[.int .i64 Y, .int .i64 M, .int .i64 W, .int .i64 D, .int .i64 S] 3)).cell? ⟨w.heap.size + 1, i, none⟩ = some (.int .i64 (pf Y M W D S i)) :=
    fun i hi => by
      have := five_cells Y M W D S (w.alloc (.cells #[.int .i64 Y, .int .i64 M, .int .i64 W, .int .i64 D, .int .i64 S] 43)) 3 i hi
      rw [World.size_alloc] at this
      exact this
  refine (sum_all5 (pf Y M W D S) _ _ _ hc).mono ?_; rintro en w' ⟨v, x, rfl, hx, rfl⟩
  clear hc
  rcases hx with ⟨rfl, hs⟩ | ⟨rfl, hs⟩
  · rw [errV_nil]
    have HS := Lib.hid hs
    obtain ⟨⟨a1, a2⟩, ⟨b1, b2⟩, ⟨c1, c2⟩, ⟨d1, d2⟩, ⟨e1, e2⟩⟩ := small_iff hs
    clear hs
    rcases loc_ways t with h | ⟨h1, h2⟩
    · have HE := Lib.hid (loc_out h)
      have HH := Lib.hid h; clear h
      go_wp2_with fail
      refine (split_all _ _).mono ?_; rintro e w' ⟨rfl, rfl⟩
      rw [HE.out.1, HE.out.2.1, HE.out.2.2, errV_hit (show (4 : Int) ≠ 0 by decide)]
      go_wp2_with fail
      go_ret2
      exact ⟨0, 4, rfl, .inl ⟨.inr HH.out, rfl, rfl⟩, ((Below.refl _ _).alloc (by omega) _).alloc (by simp) _⟩
    · have HE := Lib.hid (loc_in h1 h2)
      have hq := day_of_loc h1 h2
      have hts : 0 ≤ t % 86400 ∧ t % 86400 < 86400 := by omega
      obtain ⟨Q, hQ0⟩ : ∃ Q, t / 86400 = Q := ⟨_, rfl⟩
      obtain ⟨T, hT0⟩ : ∃ T, t % 86400 = T := ⟨_, rfl⟩
      rw [hQ0] at hq
      rw [hT0] at hts
      have HQ := Lib.hid (And.intro hQ0 hT0); clear hQ0 hT0
      have HH := Lib.hid (And.intro h1 h2); clear h1 h2
      go_wp2_with fail
      refine (split_all _ _).mono ?_; rintro e w' ⟨rfl, rfl⟩
      rw [HE.out.1, HE.out.2.1, HE.out.2.2, errV_nil, HQ.out.1, HQ.out.2]
      by_cases hYM : Y = 0 ∧ M = 0
      · obtain ⟨rfl, rfl⟩ := hYM
        have HMK : ∀ r x, AddF Q T W D S r x → AddR t 0 0 W D S r x := fun r x hf => .inr ⟨HS.out, HH.out.1, HH.out.2, Q, 0, .inl ⟨rfl, rfl, HQ.out.1.symm, rfl⟩, .inr ⟨rfl, by rw [HQ.out.2]; exact hf⟩⟩
        rcases (show Q + (7 * W + D) < -2000000000000 ∨ (¬ Q + (7 * W + D) < -2000000000000 ∧ 2000000000000 < Q + (7 * W + D)) ∨ (¬ Q + (7 * W + D) < -2000000000000 ∧ ¬ 2000000000000 < Q + (7 * W + D) ∧ Q + (7 * W + D) < -4000000) ∨ (¬ Q + (7 * W + D) < -2000000000000 ∧ ¬ 2000000000000 < Q + (7 * W + D) ∧ ¬ Q + (7 * W + D) < -4000000 ∧ 4000000 < Q + (7 * W + D)) ∨ (-4000000 ≤ Q + (7 * W + D) ∧ Q + (7 * W + D) ≤ 4000000) by omega) with g | ⟨g1, g⟩ | ⟨g1, g2, g⟩ | ⟨g1, g2, g3, g⟩ | ⟨g1, g2⟩
        · go_wp2_with fail
          go_ret2
          exact ⟨0, 4, rfl, HMK _ _ (.inr ⟨fun h => by unfold AddOk at h; omega, rfl, rfl⟩), ((Below.refl _ _).alloc (by omega) _).alloc (by simp) _⟩
        · go_wp2_with fail
          go_ret2
          exact ⟨0, 4, rfl, HMK _ _ (.inr ⟨fun h => by unfold AddOk at h; omega, rfl, rfl⟩), ((Below.refl _ _).alloc (by omega) _).alloc (by simp) _⟩
        · go_wp2_with fail
          go_ret2
          exact ⟨0, 4, rfl, HMK _ _ (.inr ⟨fun h => by unfold AddOk at h; omega, rfl, rfl⟩), ((Below.refl _ _).alloc (by omega) _).alloc (by simp) _⟩
        · go_wp2_with fail
          go_ret2
          exact ⟨0, 4, rfl, HMK _ _ (.inr ⟨fun h => by unfold AddOk at h; omega, rfl, rfl⟩), ((Below.refl _ _).alloc (by omega) _).alloc (by simp) _⟩
        · rcases loc_ways ((Q + (7 * W + D)) * 86400 + T + S) with h | ⟨h1, h2⟩
          · have hb : (decide (-345600000000 ≤ (Q + (7 * W + D)) * 86400 + T + S) && decide ((Q + (7 * W + D)) * 86400 + T + S ≤ 345600086399)) = false := by simp; omega
            have HH2 := Lib.hid h; clear h
            go_wp2_with fail
            refine (clkThere_any _ _).mono ?_; rintro e w' ⟨rfl, rfl⟩
            rw [hb]
            go_wp2_with fail
            go_ret2
            exact ⟨0, 4, rfl, HMK _ _ (.inr ⟨fun h => by have h5 := HH2.out; unfold AddOk addN at h; omega, rfl, rfl⟩), ((Below.refl _ _).alloc (by omega) _).alloc (by simp) _⟩
          · have hb : (decide (-345600000000 ≤ (Q + (7 * W + D)) * 86400 + T + S) && decide ((Q + (7 * W + D)) * 86400 + T + S ≤ 345600086399)) = true := by simp; omega
            go_wp2_with fail
            refine (clkThere_any _ _).mono ?_; rintro e w' ⟨rfl, rfl⟩
            rw [hb]
            go_wp2_with fail
            go_ret2
            exact ⟨_, 0, rfl, HMK _ _ (.inl ⟨⟨g1, g2, h1, h2⟩, rfl, rfl⟩), ((Below.refl _ _).alloc (by omega) _).alloc (by simp) _⟩
      · have hb : (Y == 0) = false ∨ (Y = 0 ∧ (M == 0) = false) := by
          by_cases hY : Y = 0
          · exact .inr ⟨hY, by simpa using fun h => hYM ⟨hY, h⟩⟩
          · exact .inl (by simpa using hY)
        have HYM := Lib.hid hYM; clear hYM
        rcases hb with hb | ⟨rfl, hb⟩
        · go_wp2_with fail
          all_goals
            refine (cmonths_ok _ _ _ ((HR.out.alloc _).alloc _) (by omega) (by omega) (by omega) (by omega)).mono ?_; rintro en w1 ⟨q, z, rfl, hm, hb1⟩
            have hz1 := hb1.size
            simp only [World.size_alloc] at hz1
            obtain ⟨q1, p1⟩ := carry hb1 w.heap.size (by simp; omega)
            have hs1 : w.heap.size < w1.heap.size := by omega
            have HB1 := Lib.hid (offA (offA hb1)); clear hb1
            by_cases hz : z = 0
            · subst hz
              rw [errV_nil]
              have hq2 := hm.in
              have HMK : ∀ r x, AddF q T W D S r x → AddR t Y M W D S r x := fun r x hf => .inr ⟨HS.out, HH.out.1, HH.out.2, q, 0, .inr ⟨HYM.out, by rw [HQ.out.1]; exact hm⟩, .inr ⟨rfl, by rw [HQ.out.2]; exact hf⟩⟩
              rcases (show q + (7 * W + D) < -2000000000000 ∨ (¬ q + (7 * W + D) < -2000000000000 ∧ 2000000000000 < q + (7 * W + D)) ∨ (¬ q + (7 * W + D) < -2000000000000 ∧ ¬ 2000000000000 < q + (7 * W + D) ∧ q + (7 * W + D) < -4000000) ∨ (¬ q + (7 * W + D) < -2000000000000 ∧ ¬ 2000000000000 < q + (7 * W + D) ∧ ¬ q + (7 * W + D) < -4000000 ∧ 4000000 < q + (7 * W + D)) ∨ (-4000000 ≤ q + (7 * W + D) ∧ q + (7 * W + D) ≤ 4000000) by omega) with g | ⟨g1, g⟩ | ⟨g1, g2, g⟩ | ⟨g1, g2, g3, g⟩ | ⟨g1, g2⟩
              · go_wp2_with fail
                go_ret2
                exact ⟨0, 4, rfl, HMK _ _ (.inr ⟨fun h => by unfold AddOk at h; omega, rfl, rfl⟩), HB1.out⟩
              · go_wp2_with fail
                go_ret2
                exact ⟨0, 4, rfl, HMK _ _ (.inr ⟨fun h => by unfold AddOk at h; omega, rfl, rfl⟩), HB1.out⟩
              · go_wp2_with fail
                go_ret2
                exact ⟨0, 4, rfl, HMK _ _ (.inr ⟨fun h => by unfold AddOk at h; omega, rfl, rfl⟩), HB1.out⟩
              · go_wp2_with fail
                go_ret2
                exact ⟨0, 4, rfl, HMK _ _ (.inr ⟨fun h => by unfold AddOk at h; omega, rfl, rfl⟩), HB1.out⟩
              · rcases loc_ways ((q + (7 * W + D)) * 86400 + T + S) with h | ⟨h1, h2⟩
                · have hb : (decide (-345600000000 ≤ (q + (7 * W + D)) * 86400 + T + S) && decide ((q + (7 * W + D)) * 86400 + T + S ≤ 345600086399)) = false := by simp; omega
                  have HH2 := Lib.hid h; clear h
                  go_wp2_with fail
                  refine (clkThere_any _ _).mono ?_; rintro e w' ⟨rfl, rfl⟩
                  rw [hb]
                  go_wp2_with fail
                  go_ret2
                  exact ⟨0, 4, rfl, HMK _ _ (.inr ⟨fun h => by have h5 := HH2.out; unfold AddOk addN at h; omega, rfl, rfl⟩), HB1.out⟩
                · have hb : (decide (-345600000000 ≤ (q + (7 * W + D)) * 86400 + T + S) && decide ((q + (7 * W + D)) * 86400 + T + S ≤ 345600086399)) = true := by simp; omega
                  go_wp2_with fail
                  refine (clkThere_any _ _).mono ?_; rintro e w' ⟨rfl, rfl⟩
                  rw [hb]
                  go_wp2_with fail
                  go_ret2
                  exact ⟨_, 0, rfl, HMK _ _ (.inl ⟨⟨g1, g2, h1, h2⟩, rfl, rfl⟩), HB1.out⟩
            · have h4 := hm.four hz
              have HMM := Lib.hid hm; clear hm
              obtain ⟨rfl, rfl⟩ := h4
              rw [errV_hit hz]
              go_wp2_with fail
              go_ret2
              exact ⟨0, 4, rfl, .inr ⟨HS.out, HH.out.1, HH.out.2, 0, 4, .inr ⟨HYM.out, by rw [HQ.out.1]; exact HMM.out⟩, .inl ⟨hz, rfl, rfl⟩⟩, HB1.out⟩
        · go_wp2_with fail
          refine (cmonths_ok _ _ _ ((HR.out.alloc _).alloc _) (by omega) (by omega) (by omega) (by omega)).mono ?_; rintro en w1 ⟨q, z, rfl, hm, hb1⟩
          have hz1 := hb1.size
          simp only [World.size_alloc] at hz1
          obtain ⟨q1, p1⟩ := carry hb1 w.heap.size (by simp; omega)
          have hs1 : w.heap.size < w1.heap.size := by omega
          have HB1 := Lib.hid (offA (offA hb1)); clear hb1
          by_cases hz : z = 0
          · subst hz
            rw [errV_nil]
            have hq2 := hm.in
            have HMK : ∀ r x, AddF q T W D S r x → AddR t 0 M W D S r x := fun r x hf => .inr ⟨HS.out, HH.out.1, HH.out.2, q, 0, .inr ⟨fun h => HYM.out ⟨trivial, h.2⟩, by rw [HQ.out.1]; exact (by rw [show 12 * 0 + M = M by omega]; exact hm)⟩, .inr ⟨rfl, by rw [HQ.out.2]; exact hf⟩⟩
            rcases (show q + (7 * W + D) < -2000000000000 ∨ (¬ q + (7 * W + D) < -2000000000000 ∧ 2000000000000 < q + (7 * W + D)) ∨ (¬ q + (7 * W + D) < -2000000000000 ∧ ¬ 2000000000000 < q + (7 * W + D) ∧ q + (7 * W + D) < -4000000) ∨ (¬ q + (7 * W + D) < -2000000000000 ∧ ¬ 2000000000000 < q + (7 * W + D) ∧ ¬ q + (7 * W + D) < -4000000 ∧ 4000000 < q + (7 * W + D)) ∨ (-4000000 ≤ q + (7 * W + D) ∧ q + (7 * W + D) ≤ 4000000) by omega) with g | ⟨g1, g⟩ | ⟨g1, g2, g⟩ | ⟨g1, g2, g3, g⟩ | ⟨g1, g2⟩
            · go_wp2_with fail
              go_ret2
              exact ⟨0, 4, rfl, HMK _ _ (.inr ⟨fun h => by unfold AddOk at h; omega, rfl, rfl⟩), HB1.out⟩
            · go_wp2_with fail
              go_ret2
              exact ⟨0, 4, rfl, HMK _ _ (.inr ⟨fun h => by unfold AddOk at h; omega, rfl, rfl⟩), HB1.out⟩
            · go_wp2_with fail
              go_ret2
              exact ⟨0, 4, rfl, HMK _ _ (.inr ⟨fun h => by unfold AddOk at h; omega, rfl, rfl⟩), HB1.out⟩
            · go_wp2_with fail
              go_ret2
              exact ⟨0, 4, rfl, HMK _ _ (.inr ⟨fun h => by unfold AddOk at h; omega, rfl, rfl⟩), HB1.out⟩
            · rcases loc_ways ((q + (7 * W + D)) * 86400 + T + S) with h | ⟨h1, h2⟩
              · have hb : (decide (-345600000000 ≤ (q + (7 * W + D)) * 86400 + T + S) && decide ((q + (7 * W + D)) * 86400 + T + S ≤ 345600086399)) = false := by simp; omega
                have HH2 := Lib.hid h; clear h
                go_wp2_with fail
                refine (clkThere_any _ _).mono ?_; rintro e w' ⟨rfl, rfl⟩
                rw [hb]
                go_wp2_with fail
                go_ret2
                exact ⟨0, 4, rfl, HMK _ _ (.inr ⟨fun h => by have h5 := HH2.out; unfold AddOk addN at h; omega, rfl, rfl⟩), HB1.out⟩
              · have hb : (decide (-345600000000 ≤ (q + (7 * W + D)) * 86400 + T + S) && decide ((q + (7 * W + D)) * 86400 + T + S ≤ 345600086399)) = true := by simp; omega
                go_wp2_with fail
                refine (clkThere_any _ _).mono ?_; rintro e w' ⟨rfl, rfl⟩
                rw [hb]
                go_wp2_with fail
                go_ret2
                exact ⟨_, 0, rfl, HMK _ _ (.inl ⟨⟨g1, g2, h1, h2⟩, rfl, rfl⟩), HB1.out⟩
          · have h4 := hm.four hz
            have HMM := Lib.hid hm; clear hm
            obtain ⟨rfl, rfl⟩ := h4
            rw [errV_hit hz]
            go_wp2_with fail
            go_ret2
            exact ⟨0, 4, rfl, .inr ⟨HS.out, HH.out.1, HH.out.2, 0, 4, .inr ⟨fun h => HYM.out ⟨trivial, h.2⟩, by rw [HQ.out.1]; exact (by rw [show 12 * 0 + M = M by omega]; exact HMM.out)⟩, .inl ⟨hz, rfl, rfl⟩⟩, HB1.out⟩
  · rw [errV_hit (show (4 : Int) ≠ 0 by decide)]
    have HS := Lib.hid hs; clear hs
    go_wp2_with fail
    go_ret2
    exact ⟨0, 4, rfl, .inl ⟨.inl HS.out, rfl, rfl⟩, ((Below.refl _ _).alloc (by omega) _).alloc (by simp) _⟩
end Go.Proofs.YtkfpnlenmdlmjaaGreatDoor
