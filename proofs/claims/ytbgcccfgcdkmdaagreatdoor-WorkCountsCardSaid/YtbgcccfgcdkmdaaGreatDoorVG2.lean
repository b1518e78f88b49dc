/- Plain: days with work, added and counted; work.Day. work.Add. work.Count. The law WorkCounts. -/
import Derived.Test.YtbgcccfgcdkmdaaGreatDoorVG1
namespace Go.Proofs.YtbgcccfgcdkmdaaGreatDoor.Wrk
open Go Go.Proofs.YtbgcccfgcdkmdaaGreatDoor
def wdE (H : Hrs) (t : Int) : Int := if chk H ≠ 0 then chk H else if thereB t = true then 0 else 4
theorem wdE_bad {H : Hrs} {t : Int} (h : chk H ≠ 0) : wdE H t = chk H := if_pos h
theorem wdE_out {H : Hrs} {t : Int} (h : chk H = 0) (h2 : thereB t = false) : wdE H t = 4 := (if_neg (by rw [h]; decide)).trans (if_neg (by rw [h2]; decide))
theorem wdE_ok {H : Hrs} {t : Int} (h : chk H = 0) (h2 : thereB t = true) : wdE H t = 0 := (if_neg (by rw [h]; decide)).trans (if_pos h2)
noncomputable def wdL (H : Hrs) (t : Int) : List (Int × Int) := if wdE H t = 0 then dayL H t else []
noncomputable def workB (H : Hrs) (t : Int) : Bool := decide (0 < (dayL H t).length)
noncomputable def addS (H : Hrs) (st : Int) : Nat → Int → Int → Int × Int
  | 0, _, _ => (0, 12)
  | k + 1, d, n => if thereB (d + st) = true then (if workB H (d + st) = true then (if n = 1 then (d + st, 0) else addS H st k (d + st) (n - 1)) else addS H st k (d + st) n) else (0, 4)
noncomputable def addR (H : Hrs) (d n : Int) : Int × Int :=
  if chk H ≠ 0 then (0, chk H) else if thereB d = false then (0, 4) else if n < -4000 ∨ 4000 < n then (0, 4) else if n = 0 then addS H 1 4000 (d - 1) 1 else if n < 0 then addS H (-1) 4000 d (-n) else addS H 1 4000 d n
noncomputable def cntS (H : Hrs) (a : Int) : Nat → Int
  | 0 => 0
  | k + 1 => cntS H a k + if workB H (a + k) = true then 1 else 0
noncomputable def cntR (H : Hrs) (a b : Int) : Int × Int :=
  if chk H ≠ 0 then (0, chk H) else if b < a then (0, 7) else if thereB a = false ∨ thereB b = false ∨ 4000 < b - a then (0, 4) else (cntS H a (b - a).toNat, 0)
theorem cntS_bd (H : Hrs) (a : Int) (k : Nat) : 0 ≤ cntS H a k ∧ cntS H a k ≤ k := by
  induction k with
  | zero => simp [cntS]
  | succ k ih => unfold cntS; split <;> omega
theorem there_bd {t : Int} (h : thereB t = true) : -800000 ≤ t ∧ t ≤ 3000000 := by
  have h := thereB_true.1 h
  have hb2 := y1_bd 2 (by omega) (by omega)
  have hb9 := y1_bd 9999 (by omega) (by omega)
  unfold There at h
  omega
theorem wkE_len {L : List (Int × Int)} (h : wkE L = 0) : L.length ≤ 60 := by
  unfold wkE at h
  split at h
  · cases h
  · omega
theorem chk_week0 {H : Hrs} (h : chk H = 0) : ∀ k, k < 7 → wkE (H.week k) = 0 := by
  have hw : wksE H = 0 := by
    unfold chk at h
    split at h
    · rename_i g; exact absurd h g
    · rename_i g; exact Decidable.not_not.1 g
  intro k hk
  have : ∀ d j, j + d = 7 → frm (fun k => wkE (H.week k)) 7 j = 0 → ∀ i, j ≤ i → i < 7 → wkE (H.week i) = 0 := by
    intro d
    induction d with
    | zero => intro j hj _ i h1 h2; omega
    | succ d ih =>
      intro j hj hf i h1 h2
      by_cases e : wkE (H.week j) = 0
      · rw [frm_go (by omega) e] at hf
        by_cases eij : i = j
        · rw [eij]; exact e
        · exact ih (j + 1) (by omega) hf i (by omega) h2
      · rw [frm_hit (by omega) e] at hf; exact absurd hf e
  exact this 7 0 rfl hw k (Nat.zero_le _) hk
theorem dayL_len {H : Hrs} (h : chk H = 0) (t : Int) : (dayL H t).length ≤ 60 := by
  unfold dayL
  split
  · simp
  · exact wkE_len (chk_week0 h _ (by have := Dm.wd_bd t; omega))
end Go.Proofs.YtbgcccfgcdkmdaaGreatDoor.Wrk
namespace Go.Proofs.YtbgcccfgcdkmdaaGreatDoor
open Go.RowKit Wrk
theorem VSp.up {B B' : Nat} {w : World} {v : Value} {L : List (Int × Int)} (h : VSp B w v L) (hB : B ≤ B') : VSp B' w v L := by
  obtain ⟨oa, cap, h1, h2, h3⟩ := h
  exact ⟨oa, cap, h1, h2, fun a ha => ⟨fun h0 => Nat.lt_of_lt_of_le ((h3 a ha).1 h0) hB, (h3 a ha).2⟩⟩
def WdPost (H : Hrs) (t : Int) (er : Int → Value) (w : World) (e : Ending) (w' : World) : Prop := ∃ v, e = .returned (.tuple #[v, er (wdE H t)]) ∧ VSp w'.heap.size w' v (wdL H t) ∧ Below w.heap.size w w'
set_option maxRecDepth 100000 in
set_option maxHeartbeats 8000000 in
theorem workDay_any (B : Nat) (H : Hrs) (s : Nat → Value) (vh : Value) (t : Int) (w : World) (hr : RomanT w) (hR : HrsR B w s vh H) (hB : B ≤ w.heap.size) : Calls Tryz.prog 35 #[hoursV s vh, .int .i64 t] w (WdPost H t errV w) := by
  obtain ⟨wB, hwB, ⟨hb0, hlt⟩, f0, f1, f2, f3, f4, f5, f6, f7⟩ := hours_cells s vh w
  have HB0 := Lib.hid hb0
  have HLT := Lib.hid hlt
  have HRB := Lib.hid (RomanT.call hr hb0)
  have HHB := Lib.hid (hR.call (hb0.mono hB))
  have HBB := Lib.hid (Nat.le_trans hB hb0.size)
  unfold WdPost
  by_cases hc : chk H = 0
  · have CN := Lib.hid (newDesk_any B H s vh wB HRB.out HHB.out HBB.out hc)
    have CT := Lib.hid (fun w0 h => deskThere_any t w0 h)
    have HCL := Lib.hid (dayL_len hc t)
    unfold hoursV at CN
    unfold hoursV
    cases ht : thereB t with
    | false =>
      have HE : Hid (wdE H t = 4 ∧ wdL H t = []) := Lib.hid ⟨wdE_out hc ht, if_neg (by rw [wdE_out hc ht]; decide)⟩
      rw [ht] at CT
      clear ht hb0 hlt hr hR hB hc
      go_enter Tryz.func35, Tryz.ntmps35
      go_wp2_with (first
        | (go_at_call 56; refine (CN.out).mono ?_; rintro e w2 ⟨q, m, rfl, hd, hb2⟩; have HD := Lib.hid hd; have HB2 := Lib.hid hb2; clear hd hb2)
        | (go_at_call 47; refine (CT.out _ HD.out.rom).mono ?_; rintro e w3 ⟨rfl, hb3⟩; have HB3 := Lib.hid (thenB HB2.out hb3); clear hb3))
      go_ret2
      exact ⟨_, by rw [HE.out.1, errV_hit (by decide)]; rfl, by rw [HE.out.2]; exact VSp.nil _ _, thenB HB0.out HB3.out⟩
    | true =>
      have HE : Hid (wdE H t = 0 ∧ wdL H t = dayL H t) := Lib.hid ⟨wdE_ok hc ht, if_pos (wdE_ok hc ht)⟩
      have CY := Lib.hid (fun q m w0 (hD : DeskR B H s vh wB.heap.size w0 q m 0 (fun _ => none)) => day_any hD hc t (thereB_true.1 ht) (Nat.zero_le _))
      rw [ht] at CT
      unfold DayPost at CY
      clear ht hb0 hlt hr hR hB hc
      go_enter Tryz.func35, Tryz.ntmps35
      go_wp2_with (first
        | (go_at_call 56; refine (CN.out).mono ?_; rintro e w2 ⟨q, m, rfl, hd, hb2⟩; have HD := Lib.hid hd; have HB2 := Lib.hid hb2; clear hd hb2)
        | (go_at_call 47; refine (CT.out _ HD.out.rom).mono ?_; rintro e w3 ⟨rfl, hb3⟩; have HD3 := Lib.hid (HD.out.call hb3); have HB3 := Lib.hid (thenB HB2.out hb3); clear hb3)
        | (go_at_call 48; refine (CY.out _ _ _ HD3.out).mono ?_; rintro e w4 ⟨n4, f4', rfl, hd4, -, hg4⟩; have HD4 := Lib.hid hd4; have HB4 := Lib.hid (HB3.out.grown hg4 HB3.out.size (fun k hk => by cases hk; exact hd4.mb)); clear hd4 hg4)
        | (go_at_call 57; refine (cloneSp_any _ B _ _ (Nat.le_trans HCL.out (by decide)) (Nat.le_trans HBB.out HB4.out.size) (dayV_sp HD4.out.hrs t)).mono ?_; rintro e w5 ⟨v5, rfl, hv5, hb5⟩; have HV5 := Lib.hid hv5; have HB5 := Lib.hid (thenB HB4.out hb5); clear hv5 hb5))
      go_ret2
      exact ⟨_, by rw [HE.out.1, errV_nil]; rfl, by rw [HE.out.2]; exact HV5.out, thenB HB0.out HB5.out⟩
  · have CN := Lib.hid (newDesk_bad B H s vh wB HRB.out HHB.out HBB.out hc)
    have HE : Hid (wdE H t = chk H ∧ wdL H t = []) := Lib.hid ⟨wdE_bad hc, if_neg (by rw [wdE_bad hc]; exact hc)⟩
    unfold hoursV at CN
    unfold hoursV
    have HI := Lib.hid (errV_hit hc)
    rw [HI.out] at CN
    obtain ⟨E, hE⟩ : ∃ E, chk H = E := ⟨_, rfl⟩
    rw [hE] at CN HE HI
    clear hb0 hlt hr hR hB hc hE
    go_enter Tryz.func35, Tryz.ntmps35
    go_wp2_with (go_at_call 56; refine (CN.out).mono ?_; rintro e w2 ⟨rfl, hb2⟩; have HB2 := Lib.hid hb2; clear hb2)
    go_ret2
    exact ⟨_, by rw [HE.out.1, HI.out]; rfl, by rw [HE.out.2]; exact VSp.nil _ _, thenB HB0.out HB2.out⟩
set_option maxRecDepth 100000 in
set_option maxHeartbeats 8000000 in
theorem plainDay_any (B : Nat) (H : Hrs) (s : Nat → Value) (vh : Value) (t : Int) (w : World) (hT : ErrT w) (hr : RomanT w) (hR : HrsR B w s vh H) (hB : B ≤ w.heap.size) : Calls Tryz.prog 18 #[hoursV s vh, .int .i64 t] w (WdPost H t (Value.int .i64) w) := by
  obtain ⟨wB, hwB, ⟨hb0, hlt⟩, f0, f1, f2, f3, f4, f5, f6, f7⟩ := hours_cells s vh w
  have HB0 := Lib.hid hb0
  have HLT := Lib.hid hlt
  have CC := Lib.hid (workDay_any B H s vh t wB (RomanT.call hr hb0) (hR.call (hb0.mono hB)) (Nat.le_trans hB hb0.size))
  have HT := Lib.hid (hT.call hb0)
  unfold hoursV at CC
  unfold hoursV
  unfold WdPost at CC ⊢
  clear hb0 hlt hr hR hB hT
  go_enter Tryz.func18, Tryz.ntmps18
  go_wp2_with (first
    | (go_at_call 35; refine (CC.out).mono ?_; rintro e w2 ⟨v, rfl, hL, hb2⟩; have HL := Lib.hid hL; have HB2 := Lib.hid hb2; have HT2 := Lib.hid (HT.out.call hb2); clear hb2 hL)
    | (go_at_call 26; refine (tell_any _ _ HT2.out).mono ?_; rintro e w3 ⟨rfl, hb3⟩; have HB3 := Lib.hid hb3; clear hb3))
  go_ret2
  exact ⟨_, rfl, (HL.out.call HB3.out).up HB3.out.size, thenB HB0.out (thenB HB2.out HB3.out)⟩
end Go.Proofs.YtbgcccfgcdkmdaaGreatDoor
namespace Go.Proofs.YtbgcccfgcdkmdaaGreatDoor
open Go.RowKit Wrk
namespace Wrk
theorem addS_out {H : Hrs} {st d n : Int} {k : Nat} (h : thereB (d + st) = false) : addS H st (k + 1) d n = (0, 4) := by rw [addS, if_neg (by rw [h]; decide)]
theorem addS_free {H : Hrs} {st d n : Int} {k : Nat} (h : thereB (d + st) = true) (h2 : workB H (d + st) = false) : addS H st (k + 1) d n = addS H st k (d + st) n := by rw [addS, if_pos h, if_neg (by rw [h2]; decide)]
theorem addS_hit {H : Hrs} {st d : Int} {k : Nat} (h : thereB (d + st) = true) (h2 : workB H (d + st) = true) : addS H st (k + 1) d 1 = (d + st, 0) := by rw [addS, if_pos h, if_pos h2, if_pos rfl]
theorem addS_next {H : Hrs} {st d n : Int} {k : Nat} (h : thereB (d + st) = true) (h2 : workB H (d + st) = true) (h3 : n ≠ 1) : addS H st (k + 1) d n = addS H st k (d + st) (n - 1) := by rw [addS, if_pos h, if_pos h2, if_neg h3]
/-- What Add has made of day and n ahead of its loop. -/
def AddIn (H : Hrs) (d n D N S : Int) : Prop := ((N < 0 ∨ 4000 < N) ∧ addR H d n = (0, 4)) ∨ (1 ≤ N ∧ N ≤ 4000 ∧ (S = 1 ∨ S = -1) ∧ -800001 ≤ D ∧ D ≤ 3000000 ∧ addR H d n = addS H S 4000 D N)
theorem addR_in {H : Hrs} {d n : Int} (h1 : chk H = 0) (h2 : thereB d = true) (h3 : -4000 ≤ n) (h4 : n ≤ 4000) : addR H d n = if n = 0 then addS H 1 4000 (d - 1) 1 else if n < 0 then addS H (-1) 4000 d (-n) else addS H 1 4000 d n := by
  unfold addR
  rw [if_neg (by rw [h1]; decide), if_neg (by rw [h2]; decide), if_neg (by omega)]
theorem addR_far {H : Hrs} {d n : Int} (h1 : chk H = 0) (h2 : thereB d = true) (h3 : n < -4000 ∨ 4000 < n) : addR H d n = (0, 4) := by
  unfold addR
  rw [if_neg (by rw [h1]; decide), if_neg (by rw [h2]; decide), if_pos h3]
end Wrk
def AddPost (H : Hrs) (d n : Int) (er : Int → Value) (w : World) (e : Ending) (w' : World) : Prop := e = .returned (.tuple #[.int .i64 (addR H d n).1, er (addR H d n).2]) ∧ Below w.heap.size w w'
set_option maxRecDepth 100000 in
set_option maxHeartbeats 8000000 in
theorem workAdd_any (B : Nat) (H : Hrs) (s : Nat → Value) (vh : Value) (d n : Int) (w : World) (hr : RomanT w) (hR : HrsR B w s vh H) (hB : B ≤ w.heap.size) (hn1 : -9223372036854775808 ≤ n) (hn2 : n ≤ 9223372036854775807) : Calls Tryz.prog 36 #[hoursV s vh, .int .i64 d, .int .i64 n] w (AddPost H d n errV w) := by
  obtain ⟨wB, hwB, ⟨hb0, hlt⟩, f0, f1, f2, f3, f4, f5, f6, f7⟩ := hours_cells s vh w
  have HB0 := Lib.hid hb0
  have HLT := Lib.hid hlt
  have HRB := Lib.hid (RomanT.call hr hb0)
  have HHB := Lib.hid (hR.call (hb0.mono hB))
  have HBB := Lib.hid (Nat.le_trans hB hb0.size)
  unfold AddPost
  by_cases hc : chk H = 0
  · have CN := Lib.hid (newDesk_any B H s vh wB HRB.out HHB.out HBB.out hc)
    have CT := Lib.hid (fun tt w0 h => deskThere_any tt w0 h)
    have CTd := Lib.hid (fun w0 h => deskThere_any d w0 h)
    unfold hoursV at CN
    unfold hoursV
    cases ht : thereB d with
    | false =>
      have HE : Hid (addR H d n = (0, 4)) := Lib.hid (by unfold addR; rw [if_neg (by rw [hc]; decide), if_pos ht])
      rw [ht] at CTd
      clear ht hb0 hlt hr hR hB hc
      go_enter Tryz.func36, Tryz.ntmps36
      go_wp2_with (first
        | (go_at_call 56; refine (CN.out).mono ?_; rintro e w2 ⟨q, m, rfl, hd, hb2⟩; have HD := Lib.hid hd; have HB2 := Lib.hid hb2; clear hd hb2)
        | (go_at_call 47; refine (CTd.out _ HD.out.rom).mono ?_; rintro e w3 ⟨rfl, hb3⟩; have HB3 := Lib.hid (thenB HB2.out hb3); clear hb3))
      go_ret2
      exact ⟨by rw [HE.out, errV_hit (by decide)]; rfl, thenB HB0.out HB3.out⟩
    | true =>
      have hdb := there_bd ht
      have CY := Lib.hid (fun q m tt n1 f1 w0 (hD : DeskR B H s vh wB.heap.size w0 q m n1 f1) (h1 : thereB tt = true) (h2 : n1 ≤ 900000) => day_any hD hc tt (thereB_true.1 h1) h2)
      have HIN0 : Hid (n = 0 → AddIn H d n (d - 1) 1 1) := Lib.hid fun e => by subst e; exact .inr ⟨by omega, by omega, .inl rfl, by omega, by omega, by rw [addR_in hc ht (by omega) (by omega), if_pos rfl]⟩
      have HINN : Hid (∀ N, n < 0 → (N = -n ∨ n = -9223372036854775808 ∧ N = n) → AddIn H d n d N (-1)) := Lib.hid fun N h1 h2 => by
        by_cases h3 : -4000 ≤ n
        · refine .inr ⟨by omega, by omega, .inr rfl, by omega, by omega, ?_⟩
          rw [addR_in hc ht h3 (by omega), if_neg (by omega), if_pos h1]
          rcases h2 with h2 | h2
          · rw [h2]
          · omega
        · exact .inl ⟨by omega, addR_far hc ht (.inl (by omega))⟩
      have HINP : Hid (0 < n → AddIn H d n d n 1) := Lib.hid fun h1 => by
        by_cases h3 : n ≤ 4000
        · exact .inr ⟨by omega, h3, .inl rfl, by omega, by omega, by rw [addR_in hc ht (by omega) h3, if_neg (by omega), if_neg (by omega)]⟩
        · exact .inl ⟨by omega, addR_far hc ht (.inr (by omega))⟩
      rw [ht] at CTd
      unfold DayPost at CY
      have HW : Hid (∀ tt, thereB tt = true → -800000 ≤ tt ∧ tt ≤ 3000000) := Lib.hid fun tt h => there_bd h
      have HWK : Hid (∀ tt L, (dayL H tt).length = L → (0 < L → workB H tt = true) ∧ (¬ 0 < L → workB H tt = false)) := Lib.hid fun tt L h => ⟨fun g => decide_eq_true (by rw [h]; exact g), fun g => decide_eq_false (by rw [h]; exact g)⟩
      clear ht hb0 hlt hr hR hB hc
      go_enter Tryz.func36, Tryz.ntmps36
      go_upto_if 25 with (first
        | (go_at_call 56; refine (CN.out).mono ?_; rintro e w2 ⟨q, m, rfl, hd, hb2⟩; have HD := Lib.hid hd; have HB2 := Lib.hid hb2; clear hd hb2)
        | (go_at_call 47; refine (CTd.out _ HD.out.rom).mono ?_; rintro e w3 ⟨rfl, hb3⟩; have HD3 := Lib.hid (HD.out.call hb3); have HB3 := Lib.hid (thenB HB2.out hb3); clear hb3))
      clear f0 f1 f2 f3 f4 f5 f6 f7 hwB
      go_cut [2, 10] from 25 to 27 (fun v2 v10 wx => ∃ N S : Int, v2 = .int .i64 N ∧ v10 = .int .i64 S ∧ Hid ((n < 0 ∧ (N = -n ∨ n = -9223372036854775808 ∧ N = n) ∧ S = -1) ∨ (0 ≤ n ∧ N = n ∧ S = 1)) ∧ w3 = wx)
      case first =>
        by_cases h0 : n < 0
        · have hN2 : wrap64 (-n) = -n ∨ n = -9223372036854775808 ∧ wrap64 (-n) = n := by
            unfold wrap64
            omega
          have HN2 := Lib.hid hN2
          have HN0 := Lib.hid h0
          clear hN2
          go_wp2_with fail
          go_meet
          exact ⟨wrap64 (-n), -1, rfl, rfl, Lib.hid (.inl ⟨HN0.out, HN2.out, rfl⟩), rfl⟩
        · have h0' : decide (n < 0) = false := decide_eq_false h0
          go_wp2_with fail
          go_meet
          exact ⟨n, 1, rfl, rfl, Lib.hid (.inr ⟨by omega, rfl, rfl⟩), rfl⟩
      case rest =>
      obtain ⟨N0, S, rfl, rfl, HI0, rfl⟩ := hcut
      go_upto_if 29 with fail
      go_cut [1, 2] from 29 to 31 (fun v1 v2 wx => ∃ D N : Int, v1 = .int .i64 D ∧ v2 = .int .i64 N ∧ Hid (AddIn H d n D N S) ∧ w3 = wx)
      case first =>
        by_cases hz : N0 = 0
        · have HI : Hid (AddIn H d n (d - 1) 1 S) := Lib.hid (by
            rcases HI0.out with ⟨g1, g2, g3⟩ | ⟨g1, g2, g3⟩
            · omega
            · subst g3; exact HIN0.out (by omega))
          subst hz
          have a1 : wrap64 (d - 1) = d - 1 := wrap_in (InI.mk (by omega) (by omega))
          go_wp2_with fail
          go_meet
          exact ⟨d - 1, 1, rfl, rfl, HI, rfl⟩
        · have HI : Hid (AddIn H d n d N0 S) := Lib.hid (by
            rcases HI0.out with ⟨g1, g2, g3⟩ | ⟨g1, g2, g3⟩
            · subst g3; exact HINN.out N0 g1 g2
            · subst g3; subst g2; exact HINP.out (by omega))
          have bz : (N0 == 0) = false := by simpa using hz
          clear hz
          go_wp2_with fail
          go_meet
          exact ⟨d, N0, rfl, rfl, HI, rfl⟩
      case rest =>
        obtain ⟨D, N, rfl, rfl, HI, rfl⟩ := hcut
        rcases HI.out with ⟨h1, h2⟩ | ⟨n1, n2, hS, d1, d2, hE⟩
        · have HE := Lib.hid h2
          clear h2
          rcases h1 with h1 | h1
          · go_wp2_with fail
            go_ret2
            exact ⟨by rw [HE.out, errV_hit (by decide)]; rfl, thenB HB0.out HB3.out⟩
          · have h3 : ¬ N < 0 := by omega
            have h3' : decide (N < 0) = false := decide_eq_false h3
            go_wp2_with fail
            go_ret2
            exact ⟨by rw [HE.out, errV_hit (by decide)]; rfl, thenB HB0.out HB3.out⟩
        · have HE := Lib.hid hE
          have h3 : decide (N < 0) = false := decide_eq_false (by omega)
          have h4 : decide (4000 < N) = false := decide_eq_false (by omega)
          have hSb : -1 ≤ S ∧ S ≤ 1 := by omega
          clear hE hS
          go_wp2_with fail
          clear h3 h4
          go_loopw [1, 2, 11] (fun v1 v2 c wr => ∃ (D1 N1 : Int) (i n' : Nat) (f' : Int → Option Value), v1 = .int .i64 D1 ∧ v2 = .int .i64 N1 ∧ c = .int .i64 (i : Int) ∧ i ≤ 4000 ∧ 1 ≤ N1 ∧ N1 ≤ 4000 ∧ -800001 ≤ D1 ∧ D1 ≤ 3000000 ∧ n' ≤ 3 * i ∧ Hid (addR H d n = addS H S (4000 - i) D1 N1) ∧ Hid (DeskR B H s vh wB.heap.size wr q m n' f') ∧ Hid (Below wB.heap.size wB wr)) (fun _ _ c _ => 4000 - (intOf c).toNat)
          case atStart => exact ⟨D, N, 0, 0, _, rfl, rfl, by simp, by omega, n1, n2, d1, d2, by omega, HE, HD3, HB3⟩
          case round =>
            obtain ⟨D1, N1, i, n', f', rfl, rfl, rfl, hi, b1, b2, b3, b4, hn', HE1, HDk, HBk⟩ := hrel
            by_cases hik : i < 4000
            · have a1 : wrap64 (D1 + S) = D1 + S := wrap_in (InI.mk (by omega) (by omega))
              have CTn := Lib.hid (fun w0 h => CT.out (D1 + S) w0 h)
              have hi2 : (i : Int) < 4000 := by omega
              have HFU := Lib.hid (show 4000 - i = (4000 - (i + 1)) + 1 by omega)
              cases ht2 : thereB (D1 + S) with
              | false =>
                have HR4 : Hid (addR H d n = (0, 4)) := Lib.hid (by rw [HE1.out, HFU.out, addS_out ht2])
                rw [ht2] at CTn
                clear ht2
                go_wp2_with (go_at_call 47; refine (CTn.out _ HDk.out.rom).mono ?_; rintro e w4 ⟨rfl, hb4⟩; have HB4 := Lib.hid (thenB HBk.out hb4); clear hb4)
                go_ret2
                exact ⟨by rw [HR4.out, errV_hit (by decide)]; rfl, thenB HB0.out HB4.out⟩
              | true =>
                have hdb2 := HW.out _ ht2
                have CYn := Lib.hid (fun w0 h => CY.out q m (D1 + S) n' f' w0 h ht2 (by omega))
                obtain ⟨LN, hLN⟩ : ∃ LN, (dayL H (D1 + S)).length = LN := ⟨_, rfl⟩
                have HLN := Lib.hid hLN
                have HTT := Lib.hid ht2
                rw [ht2] at CTn
                clear ht2 hLN
                by_cases hl : 0 < LN
                · have HWB := Lib.hid ((HWK.out _ _ HLN.out).1 hl)
                  by_cases hN1 : N1 = 1
                  · have HRH : Hid (addR H d n = (D1 + S, 0)) := Lib.hid (by rw [HE1.out, HFU.out, hN1, addS_hit HTT.out HWB.out])
                    subst hN1
                    go_wp2_with (first
                      | (go_at_call 47; refine (CTn.out _ HDk.out.rom).mono ?_; rintro e w4 ⟨rfl, hb4⟩; have HD4 := Lib.hid (HDk.out.call hb4); have HB4 := Lib.hid (thenB HBk.out hb4); clear hb4)
                      | (go_at_call 48; refine (CYn.out _ HD4.out).mono ?_; rintro e w5 ⟨n5, f5', rfl, hd5, hn5, hg5⟩; have HD5 := Lib.hid hd5; have HB5 := Lib.hid (HB4.out.grown hg5 HB4.out.size (fun k hk => by cases hk; exact hd5.mb)); obtain ⟨oa, cap, hv⟩ := (dayV_sp hd5.hrs (D1 + S)).form; rw [hv, HLN.out]; clear hd5 hg5 hv))
                    go_ret2
                    exact ⟨by rw [HRH.out, errV_nil]; rfl, thenB HB0.out HB5.out⟩
                  · have HE2 : Hid (addR H d n = addS H S (4000 - (i + 1)) (D1 + S) (N1 - 1)) := Lib.hid (by rw [HE1.out, HFU.out, addS_next HTT.out HWB.out hN1])
                    have bz : (N1 - 1 == 0) = false := by simp; omega
                    have a2 : wrap64 (N1 - 1) = N1 - 1 := wrap_in (InI.mk (by omega) (by omega))
                    go_wp2_with (first
                      | (go_at_call 47; refine (CTn.out _ HDk.out.rom).mono ?_; rintro e w4 ⟨rfl, hb4⟩; have HD4 := Lib.hid (HDk.out.call hb4); have HB4 := Lib.hid (thenB HBk.out hb4); clear hb4)
                      | (go_at_call 48; refine (CYn.out _ HD4.out).mono ?_; rintro e w5 ⟨n5, f5', rfl, hd5, hn5, hg5⟩; have HD5 := Lib.hid hd5; have HB5 := Lib.hid (HB4.out.grown hg5 HB4.out.size (fun k hk => by cases hk; exact hd5.mb)); obtain ⟨oa, cap, hv⟩ := (dayV_sp hd5.hrs (D1 + S)).form; rw [hv, HLN.out]; clear hd5 hg5 hv))
                    clear bz a2 a1
                    go_roundw
                    case rel => exact ⟨D1 + S, N1 - 1, i + 1, n5, f5', rfl, rfl, by go_num, by omega, by omega, by omega, by omega, by omega, by omega, HE2, HD5, HB5⟩
                    case measure => simp [intOf]; omega
                · have HWB := Lib.hid ((HWK.out _ _ HLN.out).2 hl)
                  have hl0 : LN = 0 := by omega
                  subst hl0
                  have HE2 : Hid (addR H d n = addS H S (4000 - (i + 1)) (D1 + S) N1) := Lib.hid (by rw [HE1.out, HFU.out, addS_free HTT.out HWB.out])
                  go_wp2_with (first
                    | (go_at_call 47; refine (CTn.out _ HDk.out.rom).mono ?_; rintro e w4 ⟨rfl, hb4⟩; have HD4 := Lib.hid (HDk.out.call hb4); have HB4 := Lib.hid (thenB HBk.out hb4); clear hb4)
                    | (go_at_call 48; refine (CYn.out _ HD4.out).mono ?_; rintro e w5 ⟨n5, f5', rfl, hd5, hn5, hg5⟩; have HD5 := Lib.hid hd5; have HB5 := Lib.hid (HB4.out.grown hg5 HB4.out.size (fun k hk => by cases hk; exact hd5.mb)); obtain ⟨oa, cap, hv⟩ := (dayV_sp hd5.hrs (D1 + S)).form; rw [hv, HLN.out]; clear hd5 hg5 hv))
                  clear a1
                  go_roundw
                  case rel => exact ⟨D1 + S, N1, i + 1, n5, f5', rfl, rfl, by go_num, by omega, by omega, by omega, by omega, by omega, by omega, HE2, HD5, HB5⟩
                  case measure => simp [intOf]; omega
            · have e : i = 4000 := by omega
              subst e
              have HR12 : Hid (addR H d n = (0, 12)) := Lib.hid (by rw [HE1.out]; rfl)
              go_wp2_with fail
              go_ret2
              exact ⟨by rw [HR12.out, errV_hit (by decide)]; rfl, thenB HB0.out HBk.out⟩
  · have CN := Lib.hid (newDesk_bad B H s vh wB HRB.out HHB.out HBB.out hc)
    have HE : Hid (addR H d n = (0, chk H)) := Lib.hid (if_pos hc)
    unfold hoursV at CN
    unfold hoursV
    have HI := Lib.hid (errV_hit hc)
    rw [HI.out] at CN
    obtain ⟨E, hE⟩ : ∃ E, chk H = E := ⟨_, rfl⟩
    rw [hE] at CN HE HI
    clear hb0 hlt hr hR hB hc hE
    go_enter Tryz.func36, Tryz.ntmps36
    go_wp2_with (go_at_call 56; refine (CN.out).mono ?_; rintro e w2 ⟨rfl, hb2⟩; have HB2 := Lib.hid hb2; clear hb2)
    go_ret2
    exact ⟨by rw [HE.out, HI.out]; rfl, thenB HB0.out HB2.out⟩
set_option maxRecDepth 100000 in
set_option maxHeartbeats 8000000 in
theorem plainAdd_any (B : Nat) (H : Hrs) (s : Nat → Value) (vh : Value) (d n : Int) (w : World) (hT : ErrT w) (hr : RomanT w) (hR : HrsR B w s vh H) (hB : B ≤ w.heap.size) (hn1 : -9223372036854775808 ≤ n) (hn2 : n ≤ 9223372036854775807) : Calls Tryz.prog 20 #[hoursV s vh, .int .i64 d, .int .i64 n] w (AddPost H d n (Value.int .i64) w) := by
  obtain ⟨wB, hwB, ⟨hb0, hlt⟩, f0, f1, f2, f3, f4, f5, f6, f7⟩ := hours_cells s vh w
  have HB0 := Lib.hid hb0
  have HLT := Lib.hid hlt
  have CC := Lib.hid (workAdd_any B H s vh d n wB (RomanT.call hr hb0) (hR.call (hb0.mono hB)) (Nat.le_trans hB hb0.size) hn1 hn2)
  have HT := Lib.hid (hT.call hb0)
  unfold hoursV at CC
  unfold hoursV
  unfold AddPost at CC ⊢
  clear hb0 hlt hr hR hB hT
  go_enter Tryz.func20, Tryz.ntmps20
  go_wp2_with (first
    | (go_at_call 36; refine (CC.out).mono ?_; rintro e w2 ⟨rfl, hb2⟩; have HB2 := Lib.hid hb2; have HT2 := Lib.hid (HT.out.call hb2); clear hb2)
    | (go_at_call 26; refine (tell_any _ _ HT2.out).mono ?_; rintro e w3 ⟨rfl, hb3⟩; have HB3 := Lib.hid hb3; clear hb3))
  go_ret2
  exact ⟨rfl, thenB HB0.out (thenB HB2.out HB3.out)⟩
end Go.Proofs.YtbgcccfgcdkmdaaGreatDoor
namespace Go.Proofs.YtbgcccfgcdkmdaaGreatDoor
open Go.RowKit Wrk
def CntPost (H : Hrs) (a b : Int) (er : Int → Value) (w : World) (e : Ending) (w' : World) : Prop := e = .returned (.tuple #[.int .i64 (cntR H a b).1, er (cntR H a b).2]) ∧ Below w.heap.size w w'
theorem cntR_order {H : Hrs} {a b : Int} (h : chk H = 0) (h2 : b < a) : cntR H a b = (0, 7) := by unfold cntR; rw [if_neg (by rw [h]; decide), if_pos h2]
theorem cntR_out {H : Hrs} {a b : Int} (h : chk H = 0) (h2 : ¬ b < a) (h3 : thereB a = false ∨ thereB b = false ∨ 4000 < b - a) : cntR H a b = (0, 4) := by unfold cntR; rw [if_neg (by rw [h]; decide), if_neg h2, if_pos h3]
theorem cntR_in {H : Hrs} {a b : Int} (h : chk H = 0) (h2 : ¬ b < a) (h3 : thereB a = true) (h4 : thereB b = true) (h5 : ¬ 4000 < b - a) : cntR H a b = (cntS H a (b - a).toNat, 0) := by
  unfold cntR
  rw [if_neg (by rw [h]; decide), if_neg h2, if_neg (by rw [h3, h4]; simp; omega)]
set_option maxRecDepth 100000 in
set_option maxHeartbeats 8000000 in
theorem workCount_any (B : Nat) (H : Hrs) (s : Nat → Value) (vh : Value) (a b : Int) (w : World) (hr : RomanT w) (hR : HrsR B w s vh H) (hB : B ≤ w.heap.size) : Calls Tryz.prog 37 #[hoursV s vh, .int .i64 a, .int .i64 b] w (CntPost H a b errV w) := by
  obtain ⟨wB, hwB, ⟨hb0, hlt⟩, f0, f1, f2, f3, f4, f5, f6, f7⟩ := hours_cells s vh w
  have HB0 := Lib.hid hb0
  have HLT := Lib.hid hlt
  have HRB := Lib.hid (RomanT.call hr hb0)
  have HHB := Lib.hid (hR.call (hb0.mono hB))
  have HBB := Lib.hid (Nat.le_trans hB hb0.size)
  unfold CntPost
  by_cases hc : chk H = 0
  · have CN := Lib.hid (newDesk_any B H s vh wB HRB.out HHB.out HBB.out hc)
    have CTa := Lib.hid (fun w0 h => deskThere_any a w0 h)
    have CTb := Lib.hid (fun w0 h => deskThere_any b w0 h)
    unfold hoursV at CN
    unfold hoursV
    by_cases hab : b < a
    · have HE := Lib.hid (cntR_order hc hab)
      clear hb0 hlt hr hR hB hc
      go_enter Tryz.func37, Tryz.ntmps37
      go_wp2_with (first | (go_at_call 56; refine (CN.out).mono ?_; rintro e w2 ⟨q, m, rfl, hd, hb2⟩; have HD := Lib.hid hd; have HB2 := Lib.hid hb2; clear hd hb2))
      go_ret2
      exact ⟨by rw [HE.out, errV_hit (by decide)]; rfl, thenB HB0.out HB2.out⟩
    · have dab : decide (b < a) = false := decide_eq_false hab
      cases hta : thereB a with
      | false =>
        have HE := Lib.hid (cntR_out hc hab (.inl hta))
        rw [hta] at CTa
        clear hta hab hb0 hlt hr hR hB hc
        go_enter Tryz.func37, Tryz.ntmps37
        go_wp2_with (first | (go_at_call 56; refine (CN.out).mono ?_; rintro e w2 ⟨q, m, rfl, hd, hb2⟩; have HD := Lib.hid hd; have HB2 := Lib.hid hb2; clear hd hb2) | (go_at_call 47; (with_reducible refine (CTa.out _ HD.out.rom).mono ?_); rintro e w3 ⟨rfl, hb3⟩; have HD3 := Lib.hid (HD.out.call hb3); have HB3 := Lib.hid (thenB HB2.out hb3); clear hb3))
        go_ret2
        exact ⟨by rw [HE.out, errV_hit (by decide)]; rfl, thenB HB0.out HB3.out⟩
      | true =>
        have ha := there_bd hta
        cases htb : thereB b with
        | false =>
          have HE := Lib.hid (cntR_out hc hab (.inr (.inl htb)))
          rw [hta] at CTa
          rw [htb] at CTb
          clear hta htb hab hb0 hlt hr hR hB hc
          go_enter Tryz.func37, Tryz.ntmps37
          go_wp2_with (first | (go_at_call 56; refine (CN.out).mono ?_; rintro e w2 ⟨q, m, rfl, hd, hb2⟩; have HD := Lib.hid hd; have HB2 := Lib.hid hb2; clear hd hb2) | (go_at_call 47; (with_reducible refine (CTa.out _ HD.out.rom).mono ?_); rintro e w3 ⟨rfl, hb3⟩; have HD3 := Lib.hid (HD.out.call hb3); have HB3 := Lib.hid (thenB HB2.out hb3); clear hb3) | (go_at_call 47; (with_reducible refine (CTb.out _ HD3.out.rom).mono ?_); rintro e w4 ⟨rfl, hb4⟩; have HD4 := Lib.hid (HD3.out.call hb4); have HB4 := Lib.hid (thenB HB3.out hb4); clear hb4))
          go_ret2
          exact ⟨by rw [HE.out, errV_hit (by decide)]; rfl, thenB HB0.out HB4.out⟩
        | true =>
          have hb := there_bd htb
          have w1 : wrap64 (b - a) = b - a := wrap_in (InI.mk (by omega) (by omega))
          by_cases hf : 4000 < b - a
          · have HE := Lib.hid (cntR_out hc hab (.inr (.inr hf)))
            rw [hta] at CTa
            rw [htb] at CTb
            clear hta htb hab hb0 hlt hr hR hB hc
            go_enter Tryz.func37, Tryz.ntmps37
            go_wp2_with (first | (go_at_call 56; refine (CN.out).mono ?_; rintro e w2 ⟨q, m, rfl, hd, hb2⟩; have HD := Lib.hid hd; have HB2 := Lib.hid hb2; clear hd hb2) | (go_at_call 47; (with_reducible refine (CTa.out _ HD.out.rom).mono ?_); rintro e w3 ⟨rfl, hb3⟩; have HD3 := Lib.hid (HD.out.call hb3); have HB3 := Lib.hid (thenB HB2.out hb3); clear hb3) | (go_at_call 47; (with_reducible refine (CTb.out _ HD3.out.rom).mono ?_); rintro e w4 ⟨rfl, hb4⟩; have HD4 := Lib.hid (HD3.out.call hb4); have HB4 := Lib.hid (thenB HB3.out hb4); clear hb4))
            go_ret2
            exact ⟨by rw [HE.out, errV_hit (by decide)]; rfl, thenB HB0.out HB4.out⟩
          · have HE := Lib.hid (cntR_in hc hab hta htb hf)
            have df : decide (4000 < b - a) = false := decide_eq_false hf
            have hf2 : b - a ≤ 4000 := by omega
            have HWT : Hid (∀ t, a ≤ t → t < b → thereB t = true) := Lib.hid fun t h1 h2 => thereB_true.2 (by
              have g1 := thereB_true.1 hta
              have g2 := thereB_true.1 htb
              unfold There at *
              omega)
            have CY := Lib.hid (fun q m tt n1 f1 w0 (hD : DeskR B H s vh wB.heap.size w0 q m n1 f1) (h1 : thereB tt = true) (h2 : n1 ≤ 900000) => day_any hD hc tt (thereB_true.1 h1) h2)
            unfold DayPost at CY
            have HWK : Hid (∀ tt L, (dayL H tt).length = L → (0 < L → workB H tt = true) ∧ (¬ 0 < L → workB H tt = false)) := Lib.hid fun tt L h => ⟨fun g => decide_eq_true (by rw [h]; exact g), fun g => decide_eq_false (by rw [h]; exact g)⟩
            rw [hta] at CTa
            rw [htb] at CTb
            clear hta htb hb0 hlt hr hR hB hc hf
            go_enter Tryz.func37, Tryz.ntmps37
            go_wp2_with (first | (go_at_call 56; refine (CN.out).mono ?_; rintro e w2 ⟨q, m, rfl, hd, hb2⟩; have HD := Lib.hid hd; have HB2 := Lib.hid hb2; clear hd hb2) | (go_at_call 47; (with_reducible refine (CTa.out _ HD.out.rom).mono ?_); rintro e w3 ⟨rfl, hb3⟩; have HD3 := Lib.hid (HD.out.call hb3); have HB3 := Lib.hid (thenB HB2.out hb3); clear hb3) | (go_at_call 47; (with_reducible refine (CTb.out _ HD3.out.rom).mono ?_); rintro e w4 ⟨rfl, hb4⟩; have HD4 := Lib.hid (HD3.out.call hb4); have HB4 := Lib.hid (thenB HB3.out hb4); clear hb4))
            clear w1 df dab
            clear f0 f1 f2 f3 f4 f5 f6 f7 hwB
            go_loopw [10, 11] (fun v c wr => ∃ (N1 : Int) (i n' : Nat) (f' : Int → Option Value), v = .int .i64 N1 ∧ c = .int .i64 (a + i) ∧ a + i ≤ b ∧ 0 ≤ N1 ∧ N1 ≤ i ∧ n' ≤ 3 * i ∧ Hid (N1 = cntS H a i) ∧ Hid (DeskR B H s vh wB.heap.size wr q m n' f') ∧ Hid (Below wB.heap.size wB wr)) (fun _ c _ => (b - intOf c).toNat)
            case atStart => exact ⟨0, 0, _, _, rfl, by simp, by omega, by omega, by omega, Nat.zero_le _, Lib.hid rfl, HD4, HB4⟩
            case round =>
              obtain ⟨N1, i, n', f', rfl, rfl, hi, b1, b2, hn', HN, HDk, HBk⟩ := hrel
              by_cases hik : a + i < b
              · have HTT := Lib.hid (HWT.out (a + i) (by omega) hik)
                have CYn := Lib.hid (fun w0 h => CY.out q m (a + i) n' f' w0 h HTT.out (by omega))
                obtain ⟨LN, hLN⟩ : ∃ LN, (dayL H (a + i)).length = LN := ⟨_, rfl⟩
                have HLN := Lib.hid hLN
                have a1 : wrap64 (N1 + 1) = N1 + 1 := wrap_in (InI.mk (by omega) (by omega))
                have a2 : wrap64 (a + (i : Int) + 1) = a + (i : Int) + 1 := wrap_in (InI.mk (by omega) (by omega))
                clear hLN
                by_cases hl : 0 < LN
                · have HN2 : Hid (N1 + 1 = cntS H a (i + 1)) := Lib.hid (by rw [cntS, if_pos ((HWK.out _ _ HLN.out).1 hl), HN.out])
                  go_wp2_with (go_at_call 48; refine (CYn.out _ HDk.out).mono ?_; rintro e w5 ⟨n5, f5', rfl, hd5, hn5, hg5⟩; have HD5 := Lib.hid hd5; have HB5 := Lib.hid (HBk.out.grown hg5 HBk.out.size (fun k hk => by cases hk; exact hd5.mb)); obtain ⟨oa, cap, hv⟩ := (dayV_sp hd5.hrs (a + i)).form; rw [hv, HLN.out]; clear hd5 hg5 hv)
                  clear a1 a2
                  go_roundw
                  case rel => exact ⟨N1 + 1, i + 1, n5, f5', rfl, by congr 1; omega, by omega, by omega, by omega, by omega, HN2, HD5, HB5⟩
                  case measure => simp [intOf]; omega
                · have HN2 : Hid (N1 = cntS H a (i + 1)) := Lib.hid (by rw [cntS, if_neg (by rw [(HWK.out _ _ HLN.out).2 hl]; decide), HN.out]; omega)
                  have hl0 : LN = 0 := by omega
                  subst hl0
                  go_wp2_with (go_at_call 48; refine (CYn.out _ HDk.out).mono ?_; rintro e w5 ⟨n5, f5', rfl, hd5, hn5, hg5⟩; have HD5 := Lib.hid hd5; have HB5 := Lib.hid (HBk.out.grown hg5 HBk.out.size (fun k hk => by cases hk; exact hd5.mb)); obtain ⟨oa, cap, hv⟩ := (dayV_sp hd5.hrs (a + i)).form; rw [hv, HLN.out]; clear hd5 hg5 hv)
                  clear a1 a2
                  go_roundw
                  case rel => exact ⟨N1, i + 1, n5, f5', rfl, by congr 1; omega, by omega, by omega, by omega, by omega, HN2, HD5, HB5⟩
                  case measure => simp [intOf]; omega
              · have HN2 : Hid (cntR H a b = (N1, 0)) := Lib.hid (by rw [HE.out, HN.out, show (b - a).toNat = i by omega])
                go_wp2_with fail
                go_ret2
                exact ⟨by rw [HN2.out, errV_nil]; rfl, thenB HB0.out HBk.out⟩
  · have CN := Lib.hid (newDesk_bad B H s vh wB HRB.out HHB.out HBB.out hc)
    have HE : Hid (cntR H a b = (0, chk H)) := Lib.hid (if_pos hc)
    unfold hoursV at CN
    unfold hoursV
    have HI := Lib.hid (errV_hit hc)
    rw [HI.out] at CN
    obtain ⟨E, hE⟩ : ∃ E, chk H = E := ⟨_, rfl⟩
    rw [hE] at CN HE HI
    clear hb0 hlt hr hR hB hc hE
    go_enter Tryz.func37, Tryz.ntmps37
    go_wp2_with (go_at_call 56; refine (CN.out).mono ?_; rintro e w2 ⟨rfl, hb2⟩; have HB2 := Lib.hid hb2; clear hb2)
    go_ret2
    exact ⟨by rw [HE.out, HI.out]; rfl, thenB HB0.out HB2.out⟩
set_option maxRecDepth 100000 in
set_option maxHeartbeats 8000000 in
theorem plainCount_any (B : Nat) (H : Hrs) (s : Nat → Value) (vh : Value) (a b : Int) (w : World) (hT : ErrT w) (hr : RomanT w) (hR : HrsR B w s vh H) (hB : B ≤ w.heap.size) : Calls Tryz.prog 22 #[hoursV s vh, .int .i64 a, .int .i64 b] w (CntPost H a b (Value.int .i64) w) := by
  obtain ⟨wB, hwB, ⟨hb0, hlt⟩, f0, f1, f2, f3, f4, f5, f6, f7⟩ := hours_cells s vh w
  have HB0 := Lib.hid hb0
  have HLT := Lib.hid hlt
  have CC := Lib.hid (workCount_any B H s vh a b wB (RomanT.call hr hb0) (hR.call (hb0.mono hB)) (Nat.le_trans hB hb0.size))
  have HT := Lib.hid (hT.call hb0)
  unfold hoursV at CC
  unfold hoursV
  unfold CntPost at CC ⊢
  clear hb0 hlt hr hR hB hT
  go_enter Tryz.func22, Tryz.ntmps22
  go_wp2_with (first
    | (go_at_call 37; refine (CC.out).mono ?_; rintro e w2 ⟨rfl, hb2⟩; have HB2 := Lib.hid hb2; have HT2 := Lib.hid (HT.out.call hb2); clear hb2)
    | (go_at_call 26; refine (tell_any _ _ HT2.out).mono ?_; rintro e w3 ⟨rfl, hb3⟩; have HB3 := Lib.hid hb3; clear hb3))
  go_ret2
  exact ⟨rfl, thenB HB0.out (thenB HB2.out HB3.out)⟩
end Go.Proofs.YtbgcccfgcdkmdaaGreatDoor
namespace Go.Proofs.YtbgcccfgcdkmdaaGreatDoor
open Go.RowKit Wrk
namespace Wrk
theorem cntS_shift (H : Hrs) (a : Int) : ∀ j, cntS H a (j + 1) = (if workB H a = true then 1 else 0) + cntS H (a + 1) j
  | 0 => by simp [cntS]
  | j + 1 => by
    rw [cntS, cntS_shift H a j, cntS, show a + ((j + 1 : Nat) : Int) = a + 1 + j by omega]
    omega
theorem addS_up {H : Hrs} : ∀ (k : Nat) (d n r : Int), 1 ≤ n → addS H 1 k d n = (r, 0) → ∃ j : Nat, 1 ≤ j ∧ j ≤ k ∧ r = d + j ∧ thereB r = true ∧ workB H r = true ∧ cntS H (d + 1) j = n
  | 0, d, n, r, _, h => by simp [addS] at h
  | k + 1, d, n, r, hn, h => by
    by_cases ht : thereB (d + 1) = true
    · by_cases hw : workB H (d + 1) = true
      · by_cases h1 : n = 1
        · subst h1
          rw [addS_hit ht hw] at h
          injection h with h _
          subst h
          exact ⟨1, by omega, by omega, by simp, ht, hw, by simp [cntS, hw]⟩
        · rw [addS_next ht hw h1] at h
          obtain ⟨j, j1, j2, j3, j4, j5, j6⟩ := addS_up k (d + 1) (n - 1) r (by omega) h
          exact ⟨j + 1, by omega, by omega, by omega, j4, j5, by rw [cntS_shift, if_pos hw, j6]; omega⟩
      · rw [addS_free ht (by simpa using hw)] at h
        obtain ⟨j, j1, j2, j3, j4, j5, j6⟩ := addS_up k (d + 1) n r hn h
        exact ⟨j + 1, by omega, by omega, by omega, j4, j5, by rw [cntS_shift, if_neg hw, j6]; omega⟩
    · rw [addS_out (by simpa using ht)] at h
      simp at h
theorem addS_zero {H : Hrs} {st : Int} : ∀ (k : Nat) (d n : Int), (addS H st k d n).2 ≠ 0 → (addS H st k d n).1 = 0
  | 0, d, n, _ => rfl
  | k + 1, d, n, h => by
    unfold addS at h ⊢
    split
    · rename_i g
      rw [if_pos g] at h
      split
      · rename_i g2
        rw [if_pos g2] at h
        split
        · rename_i g3; rw [if_pos g3] at h; exact absurd rfl h
        · rename_i g3; rw [if_neg g3] at h; exact addS_zero k _ _ h
      · rename_i g2; rw [if_neg g2] at h; exact addS_zero k _ _ h
    · rfl
theorem addR_zero {H : Hrs} {d n : Int} (h : (addR H d n).2 ≠ 0) : (addR H d n).1 = 0 := by
  unfold addR at h ⊢
  split
  · rfl
  · rename_i g1
    rw [if_neg g1] at h
    split
    · rfl
    · rename_i g2
      rw [if_neg g2] at h
      split
      · rfl
      · rename_i g3
        rw [if_neg g3] at h
        split
        · rename_i g4; rw [if_pos g4] at h; exact addS_zero _ _ _ h
        · rename_i g4
          rw [if_neg g4] at h
          split
          · rename_i g5; rw [if_pos g5] at h; exact addS_zero _ _ _ h
          · rename_i g5; rw [if_neg g5] at h; exact addS_zero _ _ _ h
/-- What is known where Add gives a day. -/
theorem addR_day {H : Hrs} {d n r : Int} (h1 : 1 ≤ n) (h2 : n ≤ 60) (h : addR H d n = (r, 0)) :
    -900000 ≤ d ∧ d < r ∧ r ≤ 3000000 ∧ wdE H r = 0 ∧ 0 < (wdL H r).length ∧ (cntR H (d + 1) (r + 1) = (0, 4) ∨ (cntR H (d + 1) (r + 1) = (n, 0) ∧ addR H (r + 1) (-1) = (r, 0))) := by
  have hc : chk H = 0 := by
    by_cases g : chk H = 0
    · exact g
    · unfold addR at h; rw [if_pos g] at h; exact absurd (congrArg Prod.snd h) g
  have hd : thereB d = true := by
    cases g : thereB d
    · unfold addR at h; rw [if_neg (by rw [hc]; decide), if_pos g] at h; simp at h
    · rfl
  rw [addR_in hc hd (by omega) (by omega), if_neg (by omega), if_neg (by omega)] at h
  obtain ⟨j, j1, j2, j3, j4, j5, j6⟩ := addS_up 4000 d n r h1 h
  have b1 := there_bd hd
  have b2 := there_bd j4
  have hE := wdE_ok hc j4
  have hW : 0 < (wdL H r).length := by
    unfold wdL
    rw [if_pos hE]
    exact of_decide_eq_true j5
  refine ⟨by omega, by omega, by omega, hE, hW, ?_⟩
  have hd1 : thereB (d + 1) = true := thereB_true.2 (by
    have g1 := thereB_true.1 hd
    have g2 := thereB_true.1 j4
    unfold There at *
    omega)
  cases hr : thereB (r + 1) with
  | false => exact .inl (cntR_out hc (by omega) (.inr (.inl hr)))
  | true =>
    refine .inr ⟨?_, ?_⟩
    · rw [cntR_in hc (by omega) hd1 hr (by omega), show (r + 1 - (d + 1)).toNat = j by omega, j6]
    · rw [addR_in hc hr (by decide) (by decide), if_neg (by decide), if_pos (by decide)]
      have e : r + 1 + -1 = r := by omega
      have h2 := addS_hit (H := H) (st := -1) (d := r + 1) (k := 3999) (by rw [e]; exact j4) (by rw [e]; exact j5)
      rw [e] at h2
      exact h2
end Wrk
theorem tmod60 (n : Int) : (n.tmod 60 < 0 → n.tmod 60 + 60 = n % 60) ∧ (¬ n.tmod 60 < 0 → n.tmod 60 = n % 60) := by
  have h1 := Int.tmod_def n 60
  have h2 : n.tdiv 60 = if 0 ≤ n then n / 60 else -((-n) / 60) := by
    split
    · exact Int.tdiv_eq_ediv_of_nonneg ‹_›
    · rw [show n = -(-n) by omega, Int.neg_tdiv, Int.tdiv_eq_ediv_of_nonneg (by omega)]; simp
  split at h2 <;> omega
theorem ret1w {a b : Int} (h : a = b) : Ending.returned (.int .i64 a) = .returned (.int .i64 b) := by rw [h]
set_option maxHeartbeats 400000 in
theorem pick60 (n : Int) (w : World) : Calls Tryz.prog 17 #[.int .i64 n, .int .i64 60] w fun e w' => e = .returned (.int .i64 (n % 60)) ∧ w = w' := by
  obtain ⟨g1, g2⟩ := tmod60 n
  have g3 : -60 < n.tmod 60 ∧ n.tmod 60 < 60 := by
    have h2 := Int.natAbs_tmod n 60
    have h3 := Nat.mod_lt n.natAbs (show 0 < (60 : Int).natAbs by decide)
    omega
  by_cases h : n.tmod 60 < 0
  · have H := Lib.hid (g1 h)
    clear g1 g2
    obtain ⟨g4, g5⟩ := g3
    go_enter Tryz.func17, Tryz.ntmps17
    go_wp2_with fail
    all_goals go_ret
    all_goals exact ⟨ret1w (by have := H.out; first | exact this | simp_all | omega), rfl⟩
  · have H := Lib.hid (g2 h)
    clear g1 g2
    obtain ⟨g4, g5⟩ := g3
    go_enter Tryz.func17, Tryz.ntmps17
    go_wp2_with fail
    all_goals go_ret
    all_goals exact ⟨ret1w (by have := H.out; first | exact this | simp_all | omega), rfl⟩
set_option maxRecDepth 100000 in
set_option maxHeartbeats 8000000 in
theorem workCounts_walk (s : Nat → Value) (vh : Value) (H : Hrs) (d n : Int) (w : World) (hT : ErrT w) (hr : RomanT w) (hR : HrsR w.heap.size w s vh H) : Calls Tryz.prog 7 #[hoursV s vh, .int .i64 d, .int .i64 n] w fun e w' => e = .returned (.bool true) ∧ Below w.heap.size w w' := by
  obtain ⟨wB, hwB, ⟨hb0, hlt⟩, f0, f1, f2, f3, f4, f5, f6, f7⟩ := hours_cells s vh w
  have HB0 := Lib.hid hb0
  have HLT := Lib.hid hlt
  have HS : Hid (∀ w', Below wB.heap.size wB w' → (w'.cell? ⟨w.heap.size, 0, none⟩ = some (s 0) ∧ w'.cell? ⟨w.heap.size, 1, none⟩ = some (s 1) ∧ w'.cell? ⟨w.heap.size, 2, none⟩ = some (s 2) ∧ w'.cell? ⟨w.heap.size, 3, none⟩ = some (s 3) ∧ w'.cell? ⟨w.heap.size, 4, none⟩ = some (s 4) ∧ w'.cell? ⟨w.heap.size, 5, none⟩ = some (s 5) ∧ w'.cell? ⟨w.heap.size, 6, none⟩ = some (s 6) ∧ w'.cell? ⟨w.heap.size, 7, none⟩ = some vh)) := Lib.hid fun w' hb => ⟨(hb.cell (p := ⟨w.heap.size, 0, none⟩) HLT.out).trans f0, (hb.cell (p := ⟨w.heap.size, 1, none⟩) HLT.out).trans f1, (hb.cell (p := ⟨w.heap.size, 2, none⟩) HLT.out).trans f2, (hb.cell (p := ⟨w.heap.size, 3, none⟩) HLT.out).trans f3, (hb.cell (p := ⟨w.heap.size, 4, none⟩) HLT.out).trans f4, (hb.cell (p := ⟨w.heap.size, 5, none⟩) HLT.out).trans f5, (hb.cell (p := ⟨w.heap.size, 6, none⟩) HLT.out).trans f6, (hb.cell (p := ⟨w.heap.size, 7, none⟩) HLT.out).trans f7⟩
  have hBB := Nat.le_trans (Nat.le_refl w.heap.size) hb0.size
  have CP := Lib.hid (fun w0 => pick60 n w0)
  have hPb : 0 ≤ n % 60 ∧ n % 60 < 60 := by omega
  obtain ⟨P, hP⟩ : ∃ P, n % 60 = P := ⟨_, rfl⟩
  rw [hP] at CP hPb
  have C1 := Lib.hid (fun dd nn (h1 : -9223372036854775808 ≤ nn) (h2 : nn ≤ 9223372036854775807) w0 (hb : Below wB.heap.size wB w0) => plainAdd_any w.heap.size H s vh dd nn w0 ((hT.call hb0).call hb) (RomanT.call (RomanT.call hr hb0) hb) ((hR.call hb0).call (hb.mono hBB)) (Nat.le_trans hBB hb.size) h1 h2)
  have C2 := Lib.hid (fun aa bb w0 (hb : Below wB.heap.size wB w0) => plainCount_any w.heap.size H s vh aa bb w0 ((hT.call hb0).call hb) (RomanT.call (RomanT.call hr hb0) hb) ((hR.call hb0).call (hb.mono hBB)) (Nat.le_trans hBB hb.size))
  have C3 := Lib.hid (fun tt w0 (hb : Below wB.heap.size wB w0) => plainDay_any w.heap.size H s vh tt w0 ((hT.call hb0).call hb) (RomanT.call (RomanT.call hr hb0) hb) ((hR.call hb0).call (hb.mono hBB)) (Nat.le_trans hBB hb.size))
  unfold AddPost at C1
  unfold CntPost at C2
  unfold WdPost at C3
  obtain ⟨R, hRR⟩ : ∃ R, addR H d (1 + P) = R := ⟨_, rfl⟩
  have C1a := Lib.hid (fun w0 hb => C1.out d (1 + P) (by omega) (by omega) w0 hb)
  rw [hRR] at C1a
  have HZ : Hid (R.2 ≠ 0 → R.1 = 0) := Lib.hid (by rw [← hRR]; exact addR_zero)
  have HY : Hid (∀ r, R = (r, 0) → -900000 ≤ d ∧ d < r ∧ r ≤ 3000000 ∧ wdE H r = 0 ∧ 0 < (wdL H r).length ∧ (cntR H (d + 1) (r + 1) = (0, 4) ∨ (cntR H (d + 1) (r + 1) = (1 + P, 0) ∧ addR H (r + 1) (-1) = (r, 0)))) := Lib.hid fun r h => addR_day (by omega) (by omega) (hRR.trans h)
  obtain ⟨R1, R2⟩ := R
  simp only at C1a HZ
  have a1 : wrap64 (1 + P) = 1 + P := wrap_in (InI.mk (by omega) (by omega))
  unfold hoursV at C1a C1 C2 C3
  unfold hoursV
  have HPP := Lib.hid hP
  clear hb0 hlt hr hR hT hRR hBB hP
  by_cases hz : R2 = 0
  · subst hz
    obtain ⟨d1, d2, d3, hE, hL, hor⟩ := HY.out R1 rfl
    have C3a := Lib.hid (fun w0 hb => C3.out R1 w0 hb)
    rw [hE] at C3a
    have a2 : wrap64 (d + 1) = d + 1 := wrap_in (InI.mk (by omega) (by omega))
    have a3 : wrap64 (R1 + 1) = R1 + 1 := wrap_in (InI.mk (by omega) (by omega))
    have C2a := Lib.hid (fun w0 hb => C2.out (d + 1) (R1 + 1) w0 hb)
    rcases hor with ho | ⟨ho, ho2⟩
    · rw [ho] at C2a
      clear ho hE hL
      go_enter Tryz.func7, Tryz.ntmps7
      go_upto_region 5 with (first
        | (go_at_call 17; refine (CP.out _).mono ?_; rintro e w2 ⟨rfl, rfl⟩)
        | (go_at_call 20; (with_reducible refine (C1a.out _ (Below.refl _ _)).mono ?_); rintro e w3 ⟨rfl, hb3⟩; have HB3 := Lib.hid hb3; clear hb3))
      clear f0 f1 f2 f3 f4 f5 f6 f7 hwB
      obtain ⟨g0, g1, g2, g3, g4, g5, g6, g7⟩ := HS.out _ HB3.out
      go_upto_region 6 with (go_at_call 22; (with_reducible refine (C2a.out _ HB3.out).mono ?_); rintro e w4 ⟨rfl, hb4⟩; have HB4 := Lib.hid (thenB HB3.out hb4); clear hb4)
      clear g0 g1 g2 g3 g4 g5 g6 g7
      obtain ⟨g0, g1, g2, g3, g4, g5, g6, g7⟩ := HS.out _ HB4.out
      go_wp2_with (go_at_call 18; (with_reducible refine (C3a.out _ HB4.out).mono ?_); rintro e w5 ⟨v, rfl, -, hb5⟩; have HB5 := Lib.hid (thenB HB4.out hb5); clear hb5)
      go_ret
      exact ⟨rfl, thenB HB0.out HB5.out⟩
    · rw [ho] at C2a
      have C1b := Lib.hid (fun w0 hb => C1.out (R1 + 1) (-1) (by omega) (by omega) w0 hb)
      rw [ho2] at C1b
      obtain ⟨LN, hLN⟩ : ∃ LN, (wdL H R1).length = LN := ⟨_, rfl⟩
      have HLN := Lib.hid hLN
      rw [hLN] at hL
      have bp : (1 + P == 1 + P) = true := beq_self_eq_true _
      have br : (R1 == R1) = true := beq_self_eq_true _
      clear ho ho2 hE hLN
      go_enter Tryz.func7, Tryz.ntmps7
      go_upto_region 5 with (first
        | (go_at_call 17; refine (CP.out _).mono ?_; rintro e w2 ⟨rfl, rfl⟩)
        | (go_at_call 20; (with_reducible refine (C1a.out _ (Below.refl _ _)).mono ?_); rintro e w3 ⟨rfl, hb3⟩; have HB3 := Lib.hid hb3; clear hb3))
      clear f0 f1 f2 f3 f4 f5 f6 f7 hwB
      obtain ⟨g0, g1, g2, g3, g4, g5, g6, g7⟩ := HS.out _ HB3.out
      go_upto_region 6 with (go_at_call 22; (with_reducible refine (C2a.out _ HB3.out).mono ?_); rintro e w4 ⟨rfl, hb4⟩; have HB4 := Lib.hid (thenB HB3.out hb4); clear hb4)
      clear g0 g1 g2 g3 g4 g5 g6 g7
      obtain ⟨g0, g1, g2, g3, g4, g5, g6, g7⟩ := HS.out _ HB4.out
      go_upto_region 9 with (go_at_call 18; (with_reducible refine (C3a.out _ HB4.out).mono ?_); rintro e w5 ⟨v, rfl, hv, hb5⟩; obtain ⟨oa, cap, hvf⟩ := hv.form; rw [HLN.out] at hvf; subst hvf; have HB5 := Lib.hid (thenB HB4.out hb5); clear hb5 hv)
      clear g0 g1 g2 g3 g4 g5 g6 g7
      obtain ⟨g0, g1, g2, g3, g4, g5, g6, g7⟩ := HS.out _ HB5.out
      go_wp2_with (go_at_call 20; (with_reducible refine (C1b.out _ HB5.out).mono ?_); rintro e w6 ⟨rfl, hb6⟩; have HB6 := Lib.hid (thenB HB5.out hb6); clear hb6)
      go_ret
      exact ⟨rfl, thenB HB0.out HB6.out⟩
  · have hz1 := HZ.out hz
    subst hz1
    have bz : (R2 == 0) = false := by simpa using hz
    have bz2 : (R2 != 0) = true := by simpa using hz
    clear hz
    go_enter Tryz.func7, Tryz.ntmps7
    go_wp2_with (first
      | (go_at_call 17; refine (CP.out _).mono ?_; rintro e w2 ⟨rfl, rfl⟩)
      | (go_at_call 20; (with_reducible refine (C1a.out _ (Below.refl _ _)).mono ?_); rintro e w3 ⟨rfl, hb3⟩; have HB3 := Lib.hid hb3; clear hb3))
    go_ret
    exact ⟨rfl, thenB HB0.out HB3.out⟩
end Go.Proofs.YtbgcccfgcdkmdaaGreatDoor
