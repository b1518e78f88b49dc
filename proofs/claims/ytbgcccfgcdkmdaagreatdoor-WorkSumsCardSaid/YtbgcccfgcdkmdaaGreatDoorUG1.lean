/- Plain: days with work, added and counted; work.Day. work.Add. work.Count. The document's WorkDay, WorkCount, WorkAdd. The document's WorkAdd. The law WorkDays. Hours of work that came in, opened. -/
import Derived.Test.YtbgcccfgcdkmdaaGreatDoorUG3
import Derived.Test.YtbgcccfgcdkmdaaGreatDoorUG6
import Derived.Test.YtbgcccfgcdkmdaaGreatDoorWrkC
import Derived.Test.YtbgcccfgcdkmdaaGreatDoorFrame
import Derived.Deep.Matrix
import Derived.Deep.Fields
import Derived.ChangeSame
import Derived.OpenShut
namespace Go.Proofs.YtbgcccfgcdkmdaaGreatDoor.Wrk
open Go Go.Proofs.YtbgcccfgcdkmdaaGreatDoor
def wdE (H : Hrs) (t : Int) : Int := if chk H ≠ 0 then chk H else if thereB t = true then 0 else 4
theorem wdE_bad {H : Hrs} {t : Int} (h : chk H ≠ 0) : wdE H t = chk H := if_pos h
theorem wdE_out {H : Hrs} {t : Int} (h : chk H = 0) (h2 : thereB t = false) : wdE H t = 4 := (if_neg (by rw [h]; decide)).trans (if_neg (by rw [h2]; decide))
theorem wdE_ok {H : Hrs} {t : Int} (h : chk H = 0) (h2 : thereB t = true) : wdE H t = 0 := (if_neg (by rw [h]; decide)).trans (if_pos h2)
noncomputable def wdL (H : Hrs) (t : Int) : List (Int × Int) := if wdE H t = 0 then dayL H t else []
noncomputable def workB (H : Hrs) (t : Int) : Bool := decide (0 < (dayL H t).length)
noncomputable def addS (H : Hrs) (st : Int) : Nat → Int → Int → Int × Int
  | 0, _, _ => (0, 12)
  | k + 1, d, n => if thereB (d + st) = true then (if workB H (d + st) = true then (if n = 1 then (d + st, 0) else addS H st k (d + st) (n - 1)) else addS H st k (d + st) n) else (0, 4)
noncomputable def addR (H : Hrs) (d n : Int) : Int × Int :=
  if chk H ≠ 0 then (0, chk H) else if thereB d = false then (0, 4) else if n < -4000 ∨ 4000 < n then (0, 4) else if n = 0 then addS H 1 4000 (d - 1) 1 else if n < 0 then addS H (-1) 4000 d (-n) else addS H 1 4000 d n
noncomputable def cntS (H : Hrs) (a : Int) : Nat → Int
  | 0 => 0
  | k + 1 => cntS H a k + if workB H (a + k) = true then 1 else 0
noncomputable def cntR (H : Hrs) (a b : Int) : Int × Int :=
  if chk H ≠ 0 then (0, chk H) else if b < a then (0, 7) else if thereB a = false ∨ thereB b = false ∨ 4000 < b - a then (0, 4) else (cntS H a (b - a).toNat, 0)
theorem cntS_bd (H : Hrs) (a : Int) (k : Nat) : 0 ≤ cntS H a k ∧ cntS H a k ≤ k := by
  induction k with
  | zero => simp [cntS]
  | succ k ih => unfold cntS; split <;> omega
theorem there_bd {t : Int} (h : thereB t = true) : -800000 ≤ t ∧ t ≤ 3000000 := by
  have h := thereB_true.1 h
  have hb2 := y1_bd 2 (by omega) (by omega)
  have hb9 := y1_bd 9999 (by omega) (by omega)
  unfold There at h
  omega
theorem wkE_len {L : List (Int × Int)} (h : wkE L = 0) : L.length ≤ 60 := by
  unfold wkE at h
  split at h
  · cases h
  · omega
theorem chk_week0 {H : Hrs} (h : chk H = 0) : ∀ k, k < 7 → wkE (H.week k) = 0 := by
  have hw : wksE H = 0 := by
    unfold chk at h
    split at h
    · rename_i g; exact absurd h g
    · rename_i g; exact Decidable.not_not.1 g
  intro k hk
  have : ∀ d j, j + d = 7 → frm (fun k => wkE (H.week k)) 7 j = 0 → ∀ i, j ≤ i → i < 7 → wkE (H.week i) = 0 := by
    intro d
    induction d with
    | zero => intro j hj _ i h1 h2; omega
    | succ d ih =>
      intro j hj hf i h1 h2
      by_cases e : wkE (H.week j) = 0
      · rw [frm_go (by omega) e] at hf
        by_cases eij : i = j
        · rw [eij]; exact e
        · exact ih (j + 1) (by omega) hf i (by omega) h2
      · rw [frm_hit (by omega) e] at hf; exact absurd hf e
  exact this 7 0 rfl hw k (Nat.zero_le _) hk
theorem dayL_len {H : Hrs} (h : chk H = 0) (t : Int) : (dayL H t).length ≤ 60 := by
  unfold dayL
  split
  · simp
  · exact wkE_len (chk_week0 h _ (by have := Dm.wd_bd t; omega))
end Go.Proofs.YtbgcccfgcdkmdaaGreatDoor.Wrk
namespace Go.Proofs.YtbgcccfgcdkmdaaGreatDoor
open Go.RowKit Wrk
theorem VSp.up {B B' : Nat} {w : World} {v : Value} {L : List (Int × Int)} (h : VSp B w v L) (hB : B ≤ B') : VSp B' w v L := by
  obtain ⟨oa, cap, h1, h2, h3⟩ := h
  exact ⟨oa, cap, h1, h2, fun a ha => ⟨fun h0 => Nat.lt_of_lt_of_le ((h3 a ha).1 h0) hB, (h3 a ha).2⟩⟩
def WdPost (H : Hrs) (t : Int) (er : Int → Value) (w : World) (e : Ending) (w' : World) : Prop := ∃ v, e = .returned (.tuple #[v, er (wdE H t)]) ∧ VSp w'.heap.size w' v (wdL H t) ∧ Below w.heap.size w w'
set_option maxRecDepth 100000 in
set_option maxHeartbeats 8000000 in
theorem workDay_any (B : Nat) (H : Hrs) (s : Nat → Value) (vh : Value) (t : Int) (w : World) (hr : RomanT w) (hR : HrsR B w s vh H) (hB : B ≤ w.heap.size) : Calls Tryz.prog 35 #[hoursV s vh, .int .i64 t] w (WdPost H t errV w) := by
  obtain ⟨wB, hwB, ⟨hb0, hlt⟩, f0, f1, f2, f3, f4, f5, f6, f7⟩ := hours_cells s vh w
  have HB0 := Lib.hid hb0
  have HLT := Lib.hid hlt
  have HRB := Lib.hid (RomanT.call hr hb0)
  have HHB := Lib.hid (hR.call (hb0.mono hB))
  have HBB := Lib.hid (Nat.le_trans hB hb0.size)
  unfold WdPost
  by_cases hc : chk H = 0
  · have CN := Lib.hid (newDesk_any B H s vh wB HRB.out HHB.out HBB.out hc)
    have CT := Lib.hid (fun w0 h => deskThere_any t w0 h)
    have HCL := Lib.hid (dayL_len hc t)
    unfold hoursV at CN
    unfold hoursV
    cases ht : thereB t with
    | false =>
      have HE : Hid (wdE H t = 4 ∧ wdL H t = []) := Lib.hid ⟨wdE_out hc ht, if_neg (by rw [wdE_out hc ht]; decide)⟩
      rw [ht] at CT
      clear ht hb0 hlt hr hR hB hc
      go_enter Tryz.func35, Tryz.ntmps35
      go_wp2_with (first
        | (go_at_call 56; refine (CN.out).mono ?_; rintro e w2 ⟨q, m, rfl, hd, hb2⟩; have HD := Lib.hid hd; have HB2 := Lib.hid hb2; clear hd hb2)
        | (go_at_call 47; refine (CT.out _ HD.out.rom).mono ?_; rintro e w3 ⟨rfl, hb3⟩; have HB3 := Lib.hid (thenB HB2.out hb3); clear hb3))
      go_ret2
      exact ⟨_, by rw [HE.out.1, errV_hit (by decide)]; rfl, by rw [HE.out.2]; exact VSp.nil _ _, thenB HB0.out HB3.out⟩
    | true =>
      have HE : Hid (wdE H t = 0 ∧ wdL H t = dayL H t) := Lib.hid ⟨wdE_ok hc ht, if_pos (wdE_ok hc ht)⟩
      have CY := Lib.hid (fun q m w0 (hD : DeskR B H s vh wB.heap.size w0 q m 0 (fun _ => none)) => day_any hD hc t (thereB_true.1 ht) (Nat.zero_le _))
      rw [ht] at CT
      unfold DayPost at CY
      clear ht hb0 hlt hr hR hB hc
      go_enter Tryz.func35, Tryz.ntmps35
      go_wp2_with (first
        | (go_at_call 56; refine (CN.out).mono ?_; rintro e w2 ⟨q, m, rfl, hd, hb2⟩; have HD := Lib.hid hd; have HB2 := Lib.hid hb2; clear hd hb2)
        | (go_at_call 47; refine (CT.out _ HD.out.rom).mono ?_; rintro e w3 ⟨rfl, hb3⟩; have HD3 := Lib.hid (HD.out.call hb3); have HB3 := Lib.hid (thenB HB2.out hb3); clear hb3)
        | (go_at_call 48; refine (CY.out _ _ _ HD3.out).mono ?_; rintro e w4 ⟨n4, f4', rfl, hd4, -, hg4⟩; have HD4 := Lib.hid hd4; have HB4 := Lib.hid (HB3.out.grown hg4 HB3.out.size (fun k hk => by cases hk; exact hd4.mb)); clear hd4 hg4)
        | (go_at_call 57; refine (cloneSp_any _ B _ _ (Nat.le_trans HCL.out (by decide)) (Nat.le_trans HBB.out HB4.out.size) (dayV_sp HD4.out.hrs t)).mono ?_; rintro e w5 ⟨v5, rfl, hv5, hb5⟩; have HV5 := Lib.hid hv5; have HB5 := Lib.hid (thenB HB4.out hb5); clear hv5 hb5))
      go_ret2
      exact ⟨_, by rw [HE.out.1, errV_nil]; rfl, by rw [HE.out.2]; exact HV5.out, thenB HB0.out HB5.out⟩
  · have CN := Lib.hid (newDesk_bad B H s vh wB HRB.out HHB.out HBB.out hc)
    have HE : Hid (wdE H t = chk H ∧ wdL H t = []) := Lib.hid ⟨wdE_bad hc, if_neg (by rw [wdE_bad hc]; exact hc)⟩
    unfold hoursV at CN
    unfold hoursV
    have HI := Lib.hid (errV_hit hc)
    rw [HI.out] at CN
    obtain ⟨E, hE⟩ : ∃ E, chk H = E := ⟨_, rfl⟩
    rw [hE] at CN HE HI
    clear hb0 hlt hr hR hB hc hE
    go_enter Tryz.func35, Tryz.ntmps35
    go_wp2_with (go_at_call 56; refine (CN.out).mono ?_; rintro e w2 ⟨rfl, hb2⟩; have HB2 := Lib.hid hb2; clear hb2)
    go_ret2
    exact ⟨_, by rw [HE.out.1, HI.out]; rfl, by rw [HE.out.2]; exact VSp.nil _ _, thenB HB0.out HB2.out⟩
set_option maxRecDepth 100000 in
set_option maxHeartbeats 8000000 in
theorem plainDay_any (B : Nat) (H : Hrs) (s : Nat → Value) (vh : Value) (t : Int) (w : World) (hT : ErrT w) (hr : RomanT w) (hR : HrsR B w s vh H) (hB : B ≤ w.heap.size) : Calls Tryz.prog 18 #[hoursV s vh, .int .i64 t] w (WdPost H t (Value.int .i64) w) := by
  obtain ⟨wB, hwB, ⟨hb0, hlt⟩, f0, f1, f2, f3, f4, f5, f6, f7⟩ := hours_cells s vh w
  have HB0 := Lib.hid hb0
  have HLT := Lib.hid hlt
  have CC := Lib.hid (workDay_any B H s vh t wB (RomanT.call hr hb0) (hR.call (hb0.mono hB)) (Nat.le_trans hB hb0.size))
  have HT := Lib.hid (hT.call hb0)
  unfold hoursV at CC
  unfold hoursV
  unfold WdPost at CC ⊢
  clear hb0 hlt hr hR hB hT
  go_enter Tryz.func18, Tryz.ntmps18
  go_wp2_with (first
    | (go_at_call 35; refine (CC.out).mono ?_; rintro e w2 ⟨v, rfl, hL, hb2⟩; have HL := Lib.hid hL; have HB2 := Lib.hid hb2; have HT2 := Lib.hid (HT.out.call hb2); clear hb2 hL)
    | (go_at_call 26; refine (tell_any _ _ HT2.out).mono ?_; rintro e w3 ⟨rfl, hb3⟩; have HB3 := Lib.hid hb3; clear hb3))
  go_ret2
  exact ⟨_, rfl, (HL.out.call HB3.out).up HB3.out.size, thenB HB0.out (thenB HB2.out HB3.out)⟩
end Go.Proofs.YtbgcccfgcdkmdaaGreatDoor
namespace Go.Proofs.YtbgcccfgcdkmdaaGreatDoor
open Go.RowKit Wrk
namespace Wrk
theorem addS_out {H : Hrs} {st d n : Int} {k : Nat} (h : thereB (d + st) = false) : addS H st (k + 1) d n = (0, 4) := by rw [addS, if_neg (by rw [h]; decide)]
theorem addS_free {H : Hrs} {st d n : Int} {k : Nat} (h : thereB (d + st) = true) (h2 : workB H (d + st) = false) : addS H st (k + 1) d n = addS H st k (d + st) n := by rw [addS, if_pos h, if_neg (by rw [h2]; decide)]
theorem addS_hit {H : Hrs} {st d : Int} {k : Nat} (h : thereB (d + st) = true) (h2 : workB H (d + st) = true) : addS H st (k + 1) d 1 = (d + st, 0) := by rw [addS, if_pos h, if_pos h2, if_pos rfl]
theorem addS_next {H : Hrs} {st d n : Int} {k : Nat} (h : thereB (d + st) = true) (h2 : workB H (d + st) = true) (h3 : n ≠ 1) : addS H st (k + 1) d n = addS H st k (d + st) (n - 1) := by rw [addS, if_pos h, if_pos h2, if_neg h3]
/-- What Add has made of day and n ahead of its loop. -/
def AddIn (H : Hrs) (d n D N S : Int) : Prop := ((N < 0 ∨ 4000 < N) ∧ addR H d n = (0, 4)) ∨ (1 ≤ N ∧ N ≤ 4000 ∧ (S = 1 ∨ S = -1) ∧ -800001 ≤ D ∧ D ≤ 3000000 ∧ addR H d n = addS H S 4000 D N)
theorem addR_in {H : Hrs} {d n : Int} (h1 : chk H = 0) (h2 : thereB d = true) (h3 : -4000 ≤ n) (h4 : n ≤ 4000) : addR H d n = if n = 0 then addS H 1 4000 (d - 1) 1 else if n < 0 then addS H (-1) 4000 d (-n) else addS H 1 4000 d n := by
  unfold addR
  rw [if_neg (by rw [h1]; decide), if_neg (by rw [h2]; decide), if_neg (by omega)]
theorem addR_far {H : Hrs} {d n : Int} (h1 : chk H = 0) (h2 : thereB d = true) (h3 : n < -4000 ∨ 4000 < n) : addR H d n = (0, 4) := by
  unfold addR
  rw [if_neg (by rw [h1]; decide), if_neg (by rw [h2]; decide), if_pos h3]
end Wrk
def AddPost (H : Hrs) (d n : Int) (er : Int → Value) (w : World) (e : Ending) (w' : World) : Prop := e = .returned (.tuple #[.int .i64 (addR H d n).1, er (addR H d n).2]) ∧ Below w.heap.size w w'
set_option maxRecDepth 100000 in
set_option maxHeartbeats 8000000 in
theorem workAdd_any (B : Nat) (H : Hrs) (s : Nat → Value) (vh : Value) (d n : Int) (w : World) (hr : RomanT w) (hR : HrsR B w s vh H) (hB : B ≤ w.heap.size) (hn1 : -9223372036854775808 ≤ n) (hn2 : n ≤ 9223372036854775807) : Calls Tryz.prog 36 #[hoursV s vh, .int .i64 d, .int .i64 n] w (AddPost H d n errV w) := by
  obtain ⟨wB, hwB, ⟨hb0, hlt⟩, f0, f1, f2, f3, f4, f5, f6, f7⟩ := hours_cells s vh w
  have HB0 := Lib.hid hb0
  have HLT := Lib.hid hlt
  have HRB := Lib.hid (RomanT.call hr hb0)
  have HHB := Lib.hid (hR.call (hb0.mono hB))
  have HBB := Lib.hid (Nat.le_trans hB hb0.size)
  unfold AddPost
  by_cases hc : chk H = 0
  · have CN := Lib.hid (newDesk_any B H s vh wB HRB.out HHB.out HBB.out hc)
    have CT := Lib.hid (fun tt w0 h => deskThere_any tt w0 h)
    have CTd := Lib.hid (fun w0 h => deskThere_any d w0 h)
    unfold hoursV at CN
    unfold hoursV
    cases ht : thereB d with
    | false =>
      have HE : Hid (addR H d n = (0, 4)) := Lib.hid (by unfold addR; rw [if_neg (by rw [hc]; decide), if_pos ht])
      rw [ht] at CTd
      clear ht hb0 hlt hr hR hB hc
      go_enter Tryz.func36, Tryz.ntmps36
      go_wp2_with (first
        | (go_at_call 56; refine (CN.out).mono ?_; rintro e w2 ⟨q, m, rfl, hd, hb2⟩; have HD := Lib.hid hd; have HB2 := Lib.hid hb2; clear hd hb2)
        | (go_at_call 47; refine (CTd.out _ HD.out.rom).mono ?_; rintro e w3 ⟨rfl, hb3⟩; have HB3 := Lib.hid (thenB HB2.out hb3); clear hb3))
      go_ret2
      exact ⟨by rw [HE.out, errV_hit (by decide)]; rfl, thenB HB0.out HB3.out⟩
    | true =>
      have hdb := there_bd ht
      have CY := Lib.hid (fun q m tt n1 f1 w0 (hD : DeskR B H s vh wB.heap.size w0 q m n1 f1) (h1 : thereB tt = true) (h2 : n1 ≤ 900000) => day_any hD hc tt (thereB_true.1 h1) h2)
      have HIN0 : Hid (n = 0 → AddIn H d n (d - 1) 1 1) := Lib.hid fun e => by subst e; exact .inr ⟨by omega, by omega, .inl rfl, by omega, by omega, by rw [addR_in hc ht (by omega) (by omega), if_pos rfl]⟩
      have HINN : Hid (∀ N, n < 0 → (N = -n ∨ n = -9223372036854775808 ∧ N = n) → AddIn H d n d N (-1)) := Lib.hid fun N h1 h2 => by
        by_cases h3 : -4000 ≤ n
        · refine .inr ⟨by omega, by omega, .inr rfl, by omega, by omega, ?_⟩
          rw [addR_in hc ht h3 (by omega), if_neg (by omega), if_pos h1]
          rcases h2 with h2 | h2
          · rw [h2]
          · omega
        · exact .inl ⟨by omega, addR_far hc ht (.inl (by omega))⟩
      have HINP : Hid (0 < n → AddIn H d n d n 1) := Lib.hid fun h1 => by
        by_cases h3 : n ≤ 4000
        · exact .inr ⟨by omega, h3, .inl rfl, by omega, by omega, by rw [addR_in hc ht (by omega) h3, if_neg (by omega), if_neg (by omega)]⟩
        · exact .inl ⟨by omega, addR_far hc ht (.inr (by omega))⟩
      rw [ht] at CTd
      unfold DayPost at CY
      have HW : Hid (∀ tt, thereB tt = true → -800000 ≤ tt ∧ tt ≤ 3000000) := Lib.hid fun tt h => there_bd h
      have HWK : Hid (∀ tt L, (dayL H tt).length = L → (0 < L → workB H tt = true) ∧ (¬ 0 < L → workB H tt = false)) := Lib.hid fun tt L h => ⟨fun g => decide_eq_true (by rw [h]; exact g), fun g => decide_eq_false (by rw [h]; exact g)⟩
      clear ht hb0 hlt hr hR hB hc
      go_enter Tryz.func36, Tryz.ntmps36
      go_upto_if 25 with (first
        | (go_at_call 56; refine (CN.out).mono ?_; rintro e w2 ⟨q, m, rfl, hd, hb2⟩; have HD := Lib.hid hd; have HB2 := Lib.hid hb2; clear hd hb2)
        | (go_at_call 47; refine (CTd.out _ HD.out.rom).mono ?_; rintro e w3 ⟨rfl, hb3⟩; have HD3 := Lib.hid (HD.out.call hb3); have HB3 := Lib.hid (thenB HB2.out hb3); clear hb3))
      clear f0 f1 f2 f3 f4 f5 f6 f7 hwB
      go_cut [2, 10] from 25 to 27 (fun v2 v10 wx => ∃ N S : Int, v2 = .int .i64 N ∧ v10 = .int .i64 S ∧ Hid ((n < 0 ∧ (N = -n ∨ n = -9223372036854775808 ∧ N = n) ∧ S = -1) ∨ (0 ≤ n ∧ N = n ∧ S = 1)) ∧ w3 = wx)
      case first =>
        by_cases h0 : n < 0
        · have hN2 : wrap64 (-n) = -n ∨ n = -9223372036854775808 ∧ wrap64 (-n) = n := by
            unfold wrap64
            omega
          have HN2 := Lib.hid hN2
          have HN0 := Lib.hid h0
          clear hN2
          go_wp2_with fail
          go_meet
          exact ⟨wrap64 (-n), -1, rfl, rfl, Lib.hid (.inl ⟨HN0.out, HN2.out, rfl⟩), rfl⟩
        · have h0' : decide (n < 0) = false := decide_eq_false h0
          go_wp2_with fail
          go_meet
          exact ⟨n, 1, rfl, rfl, Lib.hid (.inr ⟨by omega, rfl, rfl⟩), rfl⟩
      case rest =>
      obtain ⟨N0, S, rfl, rfl, HI0, rfl⟩ := hcut
      go_upto_if 29 with fail
      go_cut [1, 2] from 29 to 31 (fun v1 v2 wx => ∃ D N : Int, v1 = .int .i64 D ∧ v2 = .int .i64 N ∧ Hid (AddIn H d n D N S) ∧ w3 = wx)
      case first =>
        by_cases hz : N0 = 0
        · have HI : Hid (AddIn H d n (d - 1) 1 S) := Lib.hid (by
            rcases HI0.out with ⟨g1, g2, g3⟩ | ⟨g1, g2, g3⟩
            · omega
            · subst g3; exact HIN0.out (by omega))
          subst hz
          have a1 : wrap64 (d - 1) = d - 1 := wrap_in (InI.mk (by omega) (by omega))
          go_wp2_with fail
          go_meet
          exact ⟨d - 1, 1, rfl, rfl, HI, rfl⟩
        · have HI : Hid (AddIn H d n d N0 S) := Lib.hid (by
            rcases HI0.out with ⟨g1, g2, g3⟩ | ⟨g1, g2, g3⟩
            · subst g3; exact HINN.out N0 g1 g2
            · subst g3; subst g2; exact HINP.out (by omega))
          have bz : (N0 == 0) = false := by simpa using hz
          clear hz
          go_wp2_with fail
          go_meet
          exact ⟨d, N0, rfl, rfl, HI, rfl⟩
      case rest =>
        obtain ⟨D, N, rfl, rfl, HI, rfl⟩ := hcut
        rcases HI.out with ⟨h1, h2⟩ | ⟨n1, n2, hS, d1, d2, hE⟩
        · have HE := Lib.hid h2
          clear h2
          rcases h1 with h1 | h1
          · go_wp2_with fail
            go_ret2
            exact ⟨by rw [HE.out, errV_hit (by decide)]; rfl, thenB HB0.out HB3.out⟩
          · have h3 : ¬ N < 0 := by omega
            have h3' : decide (N < 0) = false := decide_eq_false h3
            go_wp2_with fail
            go_ret2
            exact ⟨by rw [HE.out, errV_hit (by decide)]; rfl, thenB HB0.out HB3.out⟩
        · have HE := Lib.hid hE
          have h3 : decide (N < 0) = false := decide_eq_false (by omega)
          have h4 : decide (4000 < N) = false := decide_eq_false (by omega)
          have hSb : -1 ≤ S ∧ S ≤ 1 := by omega
          clear hE hS
          go_wp2_with fail
          clear h3 h4
          go_loopw [1, 2, 11] (fun v1 v2 c wr => ∃ (D1 N1 : Int) (i n' : Nat) (f' : Int → Option Value), v1 = .int .i64 D1 ∧ v2 = .int .i64 N1 ∧ c = .int .i64 (i : Int) ∧ i ≤ 4000 ∧ 1 ≤ N1 ∧ N1 ≤ 4000 ∧ -800001 ≤ D1 ∧ D1 ≤ 3000000 ∧ n' ≤ 3 * i ∧ Hid (addR H d n = addS H S (4000 - i) D1 N1) ∧ Hid (DeskR B H s vh wB.heap.size wr q m n' f') ∧ Hid (Below wB.heap.size wB wr)) (fun _ _ c _ => 4000 - (intOf c).toNat)
          case atStart => exact ⟨D, N, 0, 0, _, rfl, rfl, by simp, by omega, n1, n2, d1, d2, by omega, HE, HD3, HB3⟩
          case round =>
            obtain ⟨D1, N1, i, n', f', rfl, rfl, rfl, hi, b1, b2, b3, b4, hn', HE1, HDk, HBk⟩ := hrel
            by_cases hik : i < 4000
            · have a1 : wrap64 (D1 + S) = D1 + S := wrap_in (InI.mk (by omega) (by omega))
              have CTn := Lib.hid (fun w0 h => CT.out (D1 + S) w0 h)
              have hi2 : (i : Int) < 4000 := by omega
              have HFU := Lib.hid (show 4000 - i = (4000 - (i + 1)) + 1 by omega)
              cases ht2 : thereB (D1 + S) with
              | false =>
                have HR4 : Hid (addR H d n = (0, 4)) := Lib.hid (by rw [HE1.out, HFU.out, addS_out ht2])
                rw [ht2] at CTn
                clear ht2
                go_wp2_with (go_at_call 47; refine (CTn.out _ HDk.out.rom).mono ?_; rintro e w4 ⟨rfl, hb4⟩; have HB4 := Lib.hid (thenB HBk.out hb4); clear hb4)
                go_ret2
                exact ⟨by rw [HR4.out, errV_hit (by decide)]; rfl, thenB HB0.out HB4.out⟩
              | true =>
                have hdb2 := HW.out _ ht2
                have CYn := Lib.hid (fun w0 h => CY.out q m (D1 + S) n' f' w0 h ht2 (by omega))
                obtain ⟨LN, hLN⟩ : ∃ LN, (dayL H (D1 + S)).length = LN := ⟨_, rfl⟩
                have HLN := Lib.hid hLN
                have HTT := Lib.hid ht2
                rw [ht2] at CTn
                clear ht2 hLN
                by_cases hl : 0 < LN
                · have HWB := Lib.hid ((HWK.out _ _ HLN.out).1 hl)
                  by_cases hN1 : N1 = 1
                  · have HRH : Hid (addR H d n = (D1 + S, 0)) := Lib.hid (by rw [HE1.out, HFU.out, hN1, addS_hit HTT.out HWB.out])
                    subst hN1
                    go_wp2_with (first
                      | (go_at_call 47; refine (CTn.out _ HDk.out.rom).mono ?_; rintro e w4 ⟨rfl, hb4⟩; have HD4 := Lib.hid (HDk.out.call hb4); have HB4 := Lib.hid (thenB HBk.out hb4); clear hb4)
                      | (go_at_call 48; refine (CYn.out _ HD4.out).mono ?_; rintro e w5 ⟨n5, f5', rfl, hd5, hn5, hg5⟩; have HD5 := Lib.hid hd5; have HB5 := Lib.hid (HB4.out.grown hg5 HB4.out.size (fun k hk => by cases hk; exact hd5.mb)); obtain ⟨oa, cap, hv⟩ := (dayV_sp hd5.hrs (D1 + S)).form; rw [hv, HLN.out]; clear hd5 hg5 hv))
                    go_ret2
                    exact ⟨by rw [HRH.out, errV_nil]; rfl, thenB HB0.out HB5.out⟩
                  · have HE2 : Hid (addR H d n = addS H S (4000 - (i + 1)) (D1 + S) (N1 - 1)) := Lib.hid (by rw [HE1.out, HFU.out, addS_next HTT.out HWB.out hN1])
                    have bz : (N1 - 1 == 0) = false := by simp; omega
                    have a2 : wrap64 (N1 - 1) = N1 - 1 := wrap_in (InI.mk (by omega) (by omega))
                    go_wp2_with (first
                      | (go_at_call 47; refine (CTn.out _ HDk.out.rom).mono ?_; rintro e w4 ⟨rfl, hb4⟩; have HD4 := Lib.hid (HDk.out.call hb4); have HB4 := Lib.hid (thenB HBk.out hb4); clear hb4)
                      | (go_at_call 48; refine (CYn.out _ HD4.out).mono ?_; rintro e w5 ⟨n5, f5', rfl, hd5, hn5, hg5⟩; have HD5 := Lib.hid hd5; have HB5 := Lib.hid (HB4.out.grown hg5 HB4.out.size (fun k hk => by cases hk; exact hd5.mb)); obtain ⟨oa, cap, hv⟩ := (dayV_sp hd5.hrs (D1 + S)).form; rw [hv, HLN.out]; clear hd5 hg5 hv))
                    clear bz a2 a1
                    go_roundw
                    case rel => exact ⟨D1 + S, N1 - 1, i + 1, n5, f5', rfl, rfl, by go_num, by omega, by omega, by omega, by omega, by omega, by omega, HE2, HD5, HB5⟩
                    case measure => simp [intOf]; omega
                · have HWB := Lib.hid ((HWK.out _ _ HLN.out).2 hl)
                  have hl0 : LN = 0 := by omega
                  subst hl0
                  have HE2 : Hid (addR H d n = addS H S (4000 - (i + 1)) (D1 + S) N1) := Lib.hid (by rw [HE1.out, HFU.out, addS_free HTT.out HWB.out])
                  go_wp2_with (first
                    | (go_at_call 47; refine (CTn.out _ HDk.out.rom).mono ?_; rintro e w4 ⟨rfl, hb4⟩; have HD4 := Lib.hid (HDk.out.call hb4); have HB4 := Lib.hid (thenB HBk.out hb4); clear hb4)
                    | (go_at_call 48; refine (CYn.out _ HD4.out).mono ?_; rintro e w5 ⟨n5, f5', rfl, hd5, hn5, hg5⟩; have HD5 := Lib.hid hd5; have HB5 := Lib.hid (HB4.out.grown hg5 HB4.out.size (fun k hk => by cases hk; exact hd5.mb)); obtain ⟨oa, cap, hv⟩ := (dayV_sp hd5.hrs (D1 + S)).form; rw [hv, HLN.out]; clear hd5 hg5 hv))
                  clear a1
                  go_roundw
                  case rel => exact ⟨D1 + S, N1, i + 1, n5, f5', rfl, rfl, by go_num, by omega, by omega, by omega, by omega, by omega, by omega, HE2, HD5, HB5⟩
                  case measure => simp [intOf]; omega
            · have e : i = 4000 := by omega
              subst e
              have HR12 : Hid (addR H d n = (0, 12)) := Lib.hid (by rw [HE1.out]; rfl)
              go_wp2_with fail
              go_ret2
              exact ⟨by rw [HR12.out, errV_hit (by decide)]; rfl, thenB HB0.out HBk.out⟩
  · have CN := Lib.hid (newDesk_bad B H s vh wB HRB.out HHB.out HBB.out hc)
    have HE : Hid (addR H d n = (0, chk H)) := Lib.hid (if_pos hc)
    unfold hoursV at CN
    unfold hoursV
    have HI := Lib.hid (errV_hit hc)
    rw [HI.out] at CN
    obtain ⟨E, hE⟩ : ∃ E, chk H = E := ⟨_, rfl⟩
    rw [hE] at CN HE HI
    clear hb0 hlt hr hR hB hc hE
    go_enter Tryz.func36, Tryz.ntmps36
    go_wp2_with (go_at_call 56; refine (CN.out).mono ?_; rintro e w2 ⟨rfl, hb2⟩; have HB2 := Lib.hid hb2; clear hb2)
    go_ret2
    exact ⟨by rw [HE.out, HI.out]; rfl, thenB HB0.out HB2.out⟩
set_option maxRecDepth 100000 in
set_option maxHeartbeats 8000000 in
theorem plainAdd_any (B : Nat) (H : Hrs) (s : Nat → Value) (vh : Value) (d n : Int) (w : World) (hT : ErrT w) (hr : RomanT w) (hR : HrsR B w s vh H) (hB : B ≤ w.heap.size) (hn1 : -9223372036854775808 ≤ n) (hn2 : n ≤ 9223372036854775807) : Calls Tryz.prog 20 #[hoursV s vh, .int .i64 d, .int .i64 n] w (AddPost H d n (Value.int .i64) w) := by
  obtain ⟨wB, hwB, ⟨hb0, hlt⟩, f0, f1, f2, f3, f4, f5, f6, f7⟩ := hours_cells s vh w
  have HB0 := Lib.hid hb0
  have HLT := Lib.hid hlt
  have CC := Lib.hid (workAdd_any B H s vh d n wB (RomanT.call hr hb0) (hR.call (hb0.mono hB)) (Nat.le_trans hB hb0.size) hn1 hn2)
  have HT := Lib.hid (hT.call hb0)
  unfold hoursV at CC
  unfold hoursV
  unfold AddPost at CC ⊢
  clear hb0 hlt hr hR hB hT
  go_enter Tryz.func20, Tryz.ntmps20
  go_wp2_with (first
    | (go_at_call 36; refine (CC.out).mono ?_; rintro e w2 ⟨rfl, hb2⟩; have HB2 := Lib.hid hb2; have HT2 := Lib.hid (HT.out.call hb2); clear hb2)
    | (go_at_call 26; refine (tell_any _ _ HT2.out).mono ?_; rintro e w3 ⟨rfl, hb3⟩; have HB3 := Lib.hid hb3; clear hb3))
  go_ret2
  exact ⟨rfl, thenB HB0.out (thenB HB2.out HB3.out)⟩
end Go.Proofs.YtbgcccfgcdkmdaaGreatDoor
namespace Go.Proofs.YtbgcccfgcdkmdaaGreatDoor
open Go.RowKit Wrk
def CntPost (H : Hrs) (a b : Int) (er : Int → Value) (w : World) (e : Ending) (w' : World) : Prop := e = .returned (.tuple #[.int .i64 (cntR H a b).1, er (cntR H a b).2]) ∧ Below w.heap.size w w'
theorem cntR_order {H : Hrs} {a b : Int} (h : chk H = 0) (h2 : b < a) : cntR H a b = (0, 7) := by unfold cntR; rw [if_neg (by rw [h]; decide), if_pos h2]
theorem cntR_out {H : Hrs} {a b : Int} (h : chk H = 0) (h2 : ¬ b < a) (h3 : thereB a = false ∨ thereB b = false ∨ 4000 < b - a) : cntR H a b = (0, 4) := by unfold cntR; rw [if_neg (by rw [h]; decide), if_neg h2, if_pos h3]
theorem cntR_in {H : Hrs} {a b : Int} (h : chk H = 0) (h2 : ¬ b < a) (h3 : thereB a = true) (h4 : thereB b = true) (h5 : ¬ 4000 < b - a) : cntR H a b = (cntS H a (b - a).toNat, 0) := by
  unfold cntR
  rw [if_neg (by rw [h]; decide), if_neg h2, if_neg (by rw [h3, h4]; simp; omega)]
set_option maxRecDepth 100000 in
set_option maxHeartbeats 8000000 in
theorem workCount_any (B : Nat) (H : Hrs) (s : Nat → Value) (vh : Value) (a b : Int) (w : World) (hr : RomanT w) (hR : HrsR B w s vh H) (hB : B ≤ w.heap.size) : Calls Tryz.prog 37 #[hoursV s vh, .int .i64 a, .int .i64 b] w (CntPost H a b errV w) := by
  obtain ⟨wB, hwB, ⟨hb0, hlt⟩, f0, f1, f2, f3, f4, f5, f6, f7⟩ := hours_cells s vh w
  have HB0 := Lib.hid hb0
  have HLT := Lib.hid hlt
  have HRB := Lib.hid (RomanT.call hr hb0)
  have HHB := Lib.hid (hR.call (hb0.mono hB))
  have HBB := Lib.hid (Nat.le_trans hB hb0.size)
  unfold CntPost
  by_cases hc : chk H = 0
  · have CN := Lib.hid (newDesk_any B H s vh wB HRB.out HHB.out HBB.out hc)
    have CTa := Lib.hid (fun w0 h => deskThere_any a w0 h)
    have CTb := Lib.hid (fun w0 h => deskThere_any b w0 h)
    unfold hoursV at CN
    unfold hoursV
    by_cases hab : b < a
    · have HE := Lib.hid (cntR_order hc hab)
      clear hb0 hlt hr hR hB hc
      go_enter Tryz.func37, Tryz.ntmps37
      go_wp2_with (first | (go_at_call 56; refine (CN.out).mono ?_; rintro e w2 ⟨q, m, rfl, hd, hb2⟩; have HD := Lib.hid hd; have HB2 := Lib.hid hb2; clear hd hb2))
      go_ret2
      exact ⟨by rw [HE.out, errV_hit (by decide)]; rfl, thenB HB0.out HB2.out⟩
    · have dab : decide (b < a) = false := decide_eq_false hab
      cases hta : thereB a with
      | false =>
        have HE := Lib.hid (cntR_out hc hab (.inl hta))
        rw [hta] at CTa
        clear hta hab hb0 hlt hr hR hB hc
        go_enter Tryz.func37, Tryz.ntmps37
        go_wp2_with (first | (go_at_call 56; refine (CN.out).mono ?_; rintro e w2 ⟨q, m, rfl, hd, hb2⟩; have HD := Lib.hid hd; have HB2 := Lib.hid hb2; clear hd hb2) | (go_at_call 47; (with_reducible refine (CTa.out _ HD.out.rom).mono ?_); rintro e w3 ⟨rfl, hb3⟩; have HD3 := Lib.hid (HD.out.call hb3); have HB3 := Lib.hid (thenB HB2.out hb3); clear hb3))
        go_ret2
        exact ⟨by rw [HE.out, errV_hit (by decide)]; rfl, thenB HB0.out HB3.out⟩
      | true =>
        have ha := there_bd hta
        cases htb : thereB b with
        | false =>
          have HE := Lib.hid (cntR_out hc hab (.inr (.inl htb)))
          rw [hta] at CTa
          rw [htb] at CTb
          clear hta htb hab hb0 hlt hr hR hB hc
          go_enter Tryz.func37, Tryz.ntmps37
          go_wp2_with (first | (go_at_call 56; refine (CN.out).mono ?_; rintro e w2 ⟨q, m, rfl, hd, hb2⟩; have HD := Lib.hid hd; have HB2 := Lib.hid hb2; clear hd hb2) | (go_at_call 47; (with_reducible refine (CTa.out _ HD.out.rom).mono ?_); rintro e w3 ⟨rfl, hb3⟩; have HD3 := Lib.hid (HD.out.call hb3); have HB3 := Lib.hid (thenB HB2.out hb3); clear hb3) | (go_at_call 47; (with_reducible refine (CTb.out _ HD3.out.rom).mono ?_); rintro e w4 ⟨rfl, hb4⟩; have HD4 := Lib.hid (HD3.out.call hb4); have HB4 := Lib.hid (thenB HB3.out hb4); clear hb4))
          go_ret2
          exact ⟨by rw [HE.out, errV_hit (by decide)]; rfl, thenB HB0.out HB4.out⟩
        | true =>
          have hb := there_bd htb
          have w1 : wrap64 (b - a) = b - a := wrap_in (InI.mk (by omega) (by omega))
          by_cases hf : 4000 < b - a
          · have HE := Lib.hid (cntR_out hc hab (.inr (.inr hf)))
            rw [hta] at CTa
            rw [htb] at CTb
            clear hta htb hab hb0 hlt hr hR hB hc
            go_enter Tryz.func37, Tryz.ntmps37
            go_wp2_with (first | (go_at_call 56; refine (CN.out).mono ?_; rintro e w2 ⟨q, m, rfl, hd, hb2⟩; have HD := Lib.hid hd; have HB2 := Lib.hid hb2; clear hd hb2) | (go_at_call 47; (with_reducible refine (CTa.out _ HD.out.rom).mono ?_); rintro e w3 ⟨rfl, hb3⟩; have HD3 := Lib.hid (HD.out.call hb3); have HB3 := Lib.hid (thenB HB2.out hb3); clear hb3) | (go_at_call 47; (with_reducible refine (CTb.out _ HD3.out.rom).mono ?_); rintro e w4 ⟨rfl, hb4⟩; have HD4 := Lib.hid (HD3.out.call hb4); have HB4 := Lib.hid (thenB HB3.out hb4); clear hb4))
            go_ret2
            exact ⟨by rw [HE.out, errV_hit (by decide)]; rfl, thenB HB0.out HB4.out⟩
          · have HE := Lib.hid (cntR_in hc hab hta htb hf)
            have df : decide (4000 < b - a) = false := decide_eq_false hf
            have hf2 : b - a ≤ 4000 := by omega
            have HWT : Hid (∀ t, a ≤ t → t < b → thereB t = true) := Lib.hid fun t h1 h2 => thereB_true.2 (by
              have g1 := thereB_true.1 hta
              have g2 := thereB_true.1 htb
              unfold There at *
              omega)
            have CY := Lib.hid (fun q m tt n1 f1 w0 (hD : DeskR B H s vh wB.heap.size w0 q m n1 f1) (h1 : thereB tt = true) (h2 : n1 ≤ 900000) => day_any hD hc tt (thereB_true.1 h1) h2)
            unfold DayPost at CY
            have HWK : Hid (∀ tt L, (dayL H tt).length = L → (0 < L → workB H tt = true) ∧ (¬ 0 < L → workB H tt = false)) := Lib.hid fun tt L h => ⟨fun g => decide_eq_true (by rw [h]; exact g), fun g => decide_eq_false (by rw [h]; exact g)⟩
            rw [hta] at CTa
            rw [htb] at CTb
            clear hta htb hb0 hlt hr hR hB hc hf
            go_enter Tryz.func37, Tryz.ntmps37
            go_wp2_with (first | (go_at_call 56; refine (CN.out).mono ?_; rintro e w2 ⟨q, m, rfl, hd, hb2⟩; have HD := Lib.hid hd; have HB2 := Lib.hid hb2; clear hd hb2) | (go_at_call 47; (with_reducible refine (CTa.out _ HD.out.rom).mono ?_); rintro e w3 ⟨rfl, hb3⟩; have HD3 := Lib.hid (HD.out.call hb3); have HB3 := Lib.hid (thenB HB2.out hb3); clear hb3) | (go_at_call 47; (with_reducible refine (CTb.out _ HD3.out.rom).mono ?_); rintro e w4 ⟨rfl, hb4⟩; have HD4 := Lib.hid (HD3.out.call hb4); have HB4 := Lib.hid (thenB HB3.out hb4); clear hb4))
            clear w1 df dab
            clear f0 f1 f2 f3 f4 f5 f6 f7 hwB
            go_loopw [10, 11] (fun v c wr => ∃ (N1 : Int) (i n' : Nat) (f' : Int → Option Value), v = .int .i64 N1 ∧ c = .int .i64 (a + i) ∧ a + i ≤ b ∧ 0 ≤ N1 ∧ N1 ≤ i ∧ n' ≤ 3 * i ∧ Hid (N1 = cntS H a i) ∧ Hid (DeskR B H s vh wB.heap.size wr q m n' f') ∧ Hid (Below wB.heap.size wB wr)) (fun _ c _ => (b - intOf c).toNat)
            case atStart => exact ⟨0, 0, _, _, rfl, by simp, by omega, by omega, by omega, Nat.zero_le _, Lib.hid rfl, HD4, HB4⟩
            case round =>
              obtain ⟨N1, i, n', f', rfl, rfl, hi, b1, b2, hn', HN, HDk, HBk⟩ := hrel
              by_cases hik : a + i < b
              · have HTT := Lib.hid (HWT.out (a + i) (by omega) hik)
                have CYn := Lib.hid (fun w0 h => CY.out q m (a + i) n' f' w0 h HTT.out (by omega))
                obtain ⟨LN, hLN⟩ : ∃ LN, (dayL H (a + i)).length = LN := ⟨_, rfl⟩
                have HLN := Lib.hid hLN
                have a1 : wrap64 (N1 + 1) = N1 + 1 := wrap_in (InI.mk (by omega) (by omega))
                have a2 : wrap64 (a + (i : Int) + 1) = a + (i : Int) + 1 := wrap_in (InI.mk (by omega) (by omega))
                clear hLN
                by_cases hl : 0 < LN
                · have HN2 : Hid (N1 + 1 = cntS H a (i + 1)) := Lib.hid (by rw [cntS, if_pos ((HWK.out _ _ HLN.out).1 hl), HN.out])
                  go_wp2_with (go_at_call 48; refine (CYn.out _ HDk.out).mono ?_; rintro e w5 ⟨n5, f5', rfl, hd5, hn5, hg5⟩; have HD5 := Lib.hid hd5; have HB5 := Lib.hid (HBk.out.grown hg5 HBk.out.size (fun k hk => by cases hk; exact hd5.mb)); obtain ⟨oa, cap, hv⟩ := (dayV_sp hd5.hrs (a + i)).form; rw [hv, HLN.out]; clear hd5 hg5 hv)
                  clear a1 a2
                  go_roundw
                  case rel => exact ⟨N1 + 1, i + 1, n5, f5', rfl, by congr 1; omega, by omega, by omega, by omega, by omega, HN2, HD5, HB5⟩
                  case measure => simp [intOf]; omega
                · have HN2 : Hid (N1 = cntS H a (i + 1)) := Lib.hid (by rw [cntS, if_neg (by rw [(HWK.out _ _ HLN.out).2 hl]; decide), HN.out]; omega)
                  have hl0 : LN = 0 := by omega
                  subst hl0
                  go_wp2_with (go_at_call 48; refine (CYn.out _ HDk.out).mono ?_; rintro e w5 ⟨n5, f5', rfl, hd5, hn5, hg5⟩; have HD5 := Lib.hid hd5; have HB5 := Lib.hid (HBk.out.grown hg5 HBk.out.size (fun k hk => by cases hk; exact hd5.mb)); obtain ⟨oa, cap, hv⟩ := (dayV_sp hd5.hrs (a + i)).form; rw [hv, HLN.out]; clear hd5 hg5 hv)
                  clear a1 a2
                  go_roundw
                  case rel => exact ⟨N1, i + 1, n5, f5', rfl, by congr 1; omega, by omega, by omega, by omega, by omega, HN2, HD5, HB5⟩
                  case measure => simp [intOf]; omega
              · have HN2 : Hid (cntR H a b = (N1, 0)) := Lib.hid (by rw [HE.out, HN.out, show (b - a).toNat = i by omega])
                go_wp2_with fail
                go_ret2
                exact ⟨by rw [HN2.out, errV_nil]; rfl, thenB HB0.out HBk.out⟩
  · have CN := Lib.hid (newDesk_bad B H s vh wB HRB.out HHB.out HBB.out hc)
    have HE : Hid (cntR H a b = (0, chk H)) := Lib.hid (if_pos hc)
    unfold hoursV at CN
    unfold hoursV
    have HI := Lib.hid (errV_hit hc)
    rw [HI.out] at CN
    obtain ⟨E, hE⟩ : ∃ E, chk H = E := ⟨_, rfl⟩
    rw [hE] at CN HE HI
    clear hb0 hlt hr hR hB hc hE
    go_enter Tryz.func37, Tryz.ntmps37
    go_wp2_with (go_at_call 56; refine (CN.out).mono ?_; rintro e w2 ⟨rfl, hb2⟩; have HB2 := Lib.hid hb2; clear hb2)
    go_ret2
    exact ⟨by rw [HE.out, HI.out]; rfl, thenB HB0.out HB2.out⟩
set_option maxRecDepth 100000 in
set_option maxHeartbeats 8000000 in
theorem plainCount_any (B : Nat) (H : Hrs) (s : Nat → Value) (vh : Value) (a b : Int) (w : World) (hT : ErrT w) (hr : RomanT w) (hR : HrsR B w s vh H) (hB : B ≤ w.heap.size) : Calls Tryz.prog 22 #[hoursV s vh, .int .i64 a, .int .i64 b] w (CntPost H a b (Value.int .i64) w) := by
  obtain ⟨wB, hwB, ⟨hb0, hlt⟩, f0, f1, f2, f3, f4, f5, f6, f7⟩ := hours_cells s vh w
  have HB0 := Lib.hid hb0
  have HLT := Lib.hid hlt
  have CC := Lib.hid (workCount_any B H s vh a b wB (RomanT.call hr hb0) (hR.call (hb0.mono hB)) (Nat.le_trans hB hb0.size))
  have HT := Lib.hid (hT.call hb0)
  unfold hoursV at CC
  unfold hoursV
  unfold CntPost at CC ⊢
  clear hb0 hlt hr hR hB hT
  go_enter Tryz.func22, Tryz.ntmps22
  go_wp2_with (first
    | (go_at_call 37; refine (CC.out).mono ?_; rintro e w2 ⟨rfl, hb2⟩; have HB2 := Lib.hid hb2; have HT2 := Lib.hid (HT.out.call hb2); clear hb2)
    | (go_at_call 26; refine (tell_any _ _ HT2.out).mono ?_; rintro e w3 ⟨rfl, hb3⟩; have HB3 := Lib.hid hb3; clear hb3))
  go_ret2
  exact ⟨rfl, thenB HB0.out (thenB HB2.out HB3.out)⟩
end Go.Proofs.YtbgcccfgcdkmdaaGreatDoor
namespace Go.Proofs.YtbgcccfgcdkmdaaGreatDoor
open Go.RowKit Wrk
theorem field_works (a : Int) (oa : Option Addr) (n cap : Nat) (w : World) : (Instr.field 68 (.agg #[.int .i64 a, .slice oa n cap]) 1).run Tryz.prog w = .ok (.slice oa n cap) w := by kernel_rfl
set_option maxRecDepth 100000 in
set_option maxHeartbeats 8000000 in
theorem rWorkDay_any (B : Nat) (H : Hrs) (s : Nat → Value) (vh : Value) (t : Int) (w : World) (hR : HrsR B w s vh H) (hB : B ≤ w.heap.size) : Calls Tryz.prog 19 #[hoursV s vh, .int .i64 t] w (WdPost H t (Value.int .i64) w) := by
  obtain ⟨wB, hwB, ⟨hb0, hlt⟩, f0, f1, f2, f3, f4, f5, f6, f7⟩ := hours_cells s vh w
  have HB0 := Lib.hid hb0
  have HLT := Lib.hid hlt
  have HS : Hid (∀ w', Below wB.heap.size wB w' → (w'.cell? ⟨w.heap.size, 0, none⟩ = some (s 0) ∧ w'.cell? ⟨w.heap.size, 1, none⟩ = some (s 1) ∧ w'.cell? ⟨w.heap.size, 2, none⟩ = some (s 2) ∧ w'.cell? ⟨w.heap.size, 3, none⟩ = some (s 3) ∧ w'.cell? ⟨w.heap.size, 4, none⟩ = some (s 4) ∧ w'.cell? ⟨w.heap.size, 5, none⟩ = some (s 5) ∧ w'.cell? ⟨w.heap.size, 6, none⟩ = some (s 6) ∧ w'.cell? ⟨w.heap.size, 7, none⟩ = some vh)) := Lib.hid fun w' hb => ⟨(hb.cell (p := ⟨w.heap.size, 0, none⟩) HLT.out).trans f0, (hb.cell (p := ⟨w.heap.size, 1, none⟩) HLT.out).trans f1, (hb.cell (p := ⟨w.heap.size, 2, none⟩) HLT.out).trans f2, (hb.cell (p := ⟨w.heap.size, 3, none⟩) HLT.out).trans f3, (hb.cell (p := ⟨w.heap.size, 4, none⟩) HLT.out).trans f4, (hb.cell (p := ⟨w.heap.size, 5, none⟩) HLT.out).trans f5, (hb.cell (p := ⟨w.heap.size, 6, none⟩) HLT.out).trans f6, (hb.cell (p := ⟨w.heap.size, 7, none⟩) HLT.out).trans f7⟩
  have HHB := Lib.hid (hR.call (hb0.mono hB))
  have HBB := Lib.hid (Nat.le_trans hB hb0.size)
  have CC := Lib.hid (hoursCheck_any B H s vh wB HHB.out HBB.out)
  unfold WdPost
  by_cases hc : chk H = 0
  · have CT := Lib.hid (fun w0 => workThere_any t w0)
    have CW : Hid (-1000000 ≤ t → t ≤ 3100000 → ∀ w0, Below wB.heap.size wB w0 → Calls Tryz.prog 33 #[hoursV s vh, .int .i64 t, .int .i64 1] w0 fun e w' => ∃ v, e = .returned (.agg #[.int .i64 t, v]) ∧ WksL w' w0.heap.size v 1 (fun i => dayV H s (t + i)) ∧ Below w0.heap.size w0 w') := Lib.hid (fun (tb : -1000000 ≤ t) (tb2 : t ≤ 3100000) w0 (hb : Below wB.heap.size wB w0) => newWorks_any B H s vh t 1 w0 (HHB.out.call (hb.mono HBB.out)) (Nat.le_trans HBB.out hb.size) hc tb tb2 (by decide))
    rw [hc] at CC
    unfold hoursV at CC CW
    unfold hoursV
    have hff := field_works t
    cases ht : thereB t with
    | false =>
      have HE : Hid (wdE H t = 4 ∧ wdL H t = []) := Lib.hid ⟨wdE_out hc ht, if_neg (by rw [wdE_out hc ht]; decide)⟩
      rw [ht] at CT
      clear ht hb0 hlt hR hB hc
      go_enter Tryz.func19, Tryz.ntmps19
      go_wp2_with (first | (go_at_call 11; refine (CC.out).mono ?_; rintro e w2 ⟨rfl, hb2⟩; have HB2 := Lib.hid hb2; clear hb2) | (go_at_call 32; (with_reducible refine (CT.out _).mono ?_); rintro e w3 ⟨rfl, hb3⟩; have HB3 := Lib.hid (thenB HB2.out hb3); clear hb3))
      go_ret2
      exact ⟨_, by rw [HE.out.1]; rfl, by rw [HE.out.2]; exact VSp.nil _ _, thenB HB0.out HB3.out⟩
    | true =>
      have HE : Hid (wdE H t = 0 ∧ wdL H t = dayL H t) := Lib.hid ⟨wdE_ok hc ht, if_pos (wdE_ok hc ht)⟩
      have htb := there_bd ht
      have CWt := Lib.hid (CW.out (by omega) (by omega))
      have HD := Lib.hid (fun w0 (hb : Below wB.heap.size wB w0) => dayV_sp (HHB.out.call (hb.mono HBB.out)) t)
      rw [ht] at CT
      clear ht hb0 hlt hR hB hc htb CW
      go_enter Tryz.func19, Tryz.ntmps19
      go_upto_region 6 with (first | (go_at_call 11; refine (CC.out).mono ?_; rintro e w2 ⟨rfl, hb2⟩; have HB2 := Lib.hid hb2; clear hb2) | (go_at_call 32; (with_reducible refine (CT.out _).mono ?_); rintro e w3 ⟨rfl, hb3⟩; have HB3 := Lib.hid (thenB HB2.out hb3); clear hb3))
      clear f0 f1 f2 f3 f4 f5 f6 f7 hwB
      obtain ⟨g0, g1, g2, g3, g4, g5, g6, g7⟩ := HS.out _ HB3.out
      go_wp2_with (go_at_call 33; (with_reducible refine (CWt.out _ HB3.out).mono ?_); rintro e w4 ⟨v, rfl, hv, hb4⟩; obtain ⟨oa, cap, hvf⟩ := hv.form; subst hvf; obtain ⟨g, rfl, -, -, hcl⟩ := hv.at (k := 0) (by decide); have hcl2 : w4.cell? ⟨g, 0, none⟩ = some (dayV H s t) := (by rw [hcl]; simp); have HB4 := Lib.hid (thenB HB3.out hb4); clear hb4 hv hcl)
      go_ret2
      exact ⟨_, by rw [HE.out.1]; rfl, by rw [HE.out.2]; exact (HD.out _ HB4.out).up (Nat.le_trans HBB.out HB4.out.size), thenB HB0.out HB4.out⟩
  · have HE := Lib.hid (show wdE H t = chk H ∧ wdL H t = [] from ⟨wdE_bad hc, if_neg (by rw [wdE_bad hc]; exact hc)⟩)
    obtain ⟨E, hE⟩ : ∃ E, chk H = E := ⟨_, rfl⟩
    rw [hE] at CC HE hc
    have bE : (E == 0) = false := by simpa using hc
    have bE2 : (E != 0) = true := by simpa using hc
    unfold hoursV at CC
    unfold hoursV
    clear hb0 hlt hR hB hc hE
    go_enter Tryz.func19, Tryz.ntmps19
    go_wp2_with (go_at_call 11; refine (CC.out).mono ?_; rintro e w2 ⟨rfl, hb2⟩; have HB2 := Lib.hid hb2; clear hb2)
    go_ret2
    exact ⟨_, by rw [HE.out.1]; rfl, by rw [HE.out.2]; exact VSp.nil _ _, thenB HB0.out HB2.out⟩
set_option maxRecDepth 100000 in
set_option maxHeartbeats 8000000 in
theorem rWorkCount_any (B : Nat) (H : Hrs) (s : Nat → Value) (vh : Value) (a b : Int) (w : World) (hR : HrsR B w s vh H) (hB : B ≤ w.heap.size) : Calls Tryz.prog 23 #[hoursV s vh, .int .i64 a, .int .i64 b] w (CntPost H a b (Value.int .i64) w) := by
  obtain ⟨wB, hwB, ⟨hb0, hlt⟩, f0, f1, f2, f3, f4, f5, f6, f7⟩ := hours_cells s vh w
  have HB0 := Lib.hid hb0
  have HLT := Lib.hid hlt
  have HS : Hid (∀ w', Below wB.heap.size wB w' → (w'.cell? ⟨w.heap.size, 0, none⟩ = some (s 0) ∧ w'.cell? ⟨w.heap.size, 1, none⟩ = some (s 1) ∧ w'.cell? ⟨w.heap.size, 2, none⟩ = some (s 2) ∧ w'.cell? ⟨w.heap.size, 3, none⟩ = some (s 3) ∧ w'.cell? ⟨w.heap.size, 4, none⟩ = some (s 4) ∧ w'.cell? ⟨w.heap.size, 5, none⟩ = some (s 5) ∧ w'.cell? ⟨w.heap.size, 6, none⟩ = some (s 6) ∧ w'.cell? ⟨w.heap.size, 7, none⟩ = some vh)) := Lib.hid fun w' hb => ⟨(hb.cell (p := ⟨w.heap.size, 0, none⟩) HLT.out).trans f0, (hb.cell (p := ⟨w.heap.size, 1, none⟩) HLT.out).trans f1, (hb.cell (p := ⟨w.heap.size, 2, none⟩) HLT.out).trans f2, (hb.cell (p := ⟨w.heap.size, 3, none⟩) HLT.out).trans f3, (hb.cell (p := ⟨w.heap.size, 4, none⟩) HLT.out).trans f4, (hb.cell (p := ⟨w.heap.size, 5, none⟩) HLT.out).trans f5, (hb.cell (p := ⟨w.heap.size, 6, none⟩) HLT.out).trans f6, (hb.cell (p := ⟨w.heap.size, 7, none⟩) HLT.out).trans f7⟩
  have HHB := Lib.hid (hR.call (hb0.mono hB))
  have HBB := Lib.hid (Nat.le_trans hB hb0.size)
  have CC := Lib.hid (hoursCheck_any B H s vh wB HHB.out HBB.out)
  unfold CntPost
  by_cases hc : chk H = 0
  · have CTa := Lib.hid (fun w0 => workThere_any a w0)
    have CTb := Lib.hid (fun w0 => workThere_any b w0)
    rw [hc] at CC
    by_cases hab : b < a
    · have HE := Lib.hid (cntR_order hc hab)
      unfold hoursV at CC
      unfold hoursV
      clear hb0 hlt hR hB hc
      go_enter Tryz.func23, Tryz.ntmps23
      go_wp2_with (first | (go_at_call 11; refine (CC.out).mono ?_; rintro e w2 ⟨rfl, hb2⟩; have HB2 := Lib.hid hb2; clear hb2))
      go_ret2
      exact ⟨by rw [HE.out]; rfl, thenB HB0.out HB2.out⟩
    · have dab : decide (b < a) = false := decide_eq_false hab
      cases hta : thereB a with
      | false =>
        have HE := Lib.hid (cntR_out hc hab (.inl hta))
        rw [hta] at CTa
        unfold hoursV at CC
        unfold hoursV
        clear hta hab hb0 hlt hR hB hc
        go_enter Tryz.func23, Tryz.ntmps23
        go_wp2_with (first | (go_at_call 11; refine (CC.out).mono ?_; rintro e w2 ⟨rfl, hb2⟩; have HB2 := Lib.hid hb2; clear hb2) | (go_at_call 32; (with_reducible refine (CTa.out _).mono ?_); rintro e w3 ⟨rfl, hb3⟩; have HB3 := Lib.hid (thenB HB2.out hb3); clear hb3))
        go_ret2
        exact ⟨by rw [HE.out]; rfl, thenB HB0.out HB3.out⟩
      | true =>
        have ha := there_bd hta
        cases htb : thereB b with
        | false =>
          have HE := Lib.hid (cntR_out hc hab (.inr (.inl htb)))
          rw [hta] at CTa
          rw [htb] at CTb
          unfold hoursV at CC
          unfold hoursV
          clear hta htb hab hb0 hlt hR hB hc
          go_enter Tryz.func23, Tryz.ntmps23
          go_wp2_with (first | (go_at_call 11; refine (CC.out).mono ?_; rintro e w2 ⟨rfl, hb2⟩; have HB2 := Lib.hid hb2; clear hb2) | (go_at_call 32; (with_reducible refine (CTa.out _).mono ?_); rintro e w3 ⟨rfl, hb3⟩; have HB3 := Lib.hid (thenB HB2.out hb3); clear hb3) | (go_at_call 32; (with_reducible refine (CTb.out _).mono ?_); rintro e w4 ⟨rfl, hb4⟩; have HB4 := Lib.hid (thenB HB3.out hb4); clear hb4))
          go_ret2
          exact ⟨by rw [HE.out]; rfl, thenB HB0.out HB4.out⟩
        | true =>
          have hbb := there_bd htb
          have w1 : wrap64 (b - a) = b - a := wrap_in (InI.mk (by omega) (by omega))
          by_cases hf : 4000 < b - a
          · have HE := Lib.hid (cntR_out hc hab (.inr (.inr hf)))
            rw [hta] at CTa
            rw [htb] at CTb
            unfold hoursV at CC
            unfold hoursV
            clear hta htb hab hb0 hlt hR hB hc
            go_enter Tryz.func23, Tryz.ntmps23
            go_wp2_with (first | (go_at_call 11; refine (CC.out).mono ?_; rintro e w2 ⟨rfl, hb2⟩; have HB2 := Lib.hid hb2; clear hb2) | (go_at_call 32; (with_reducible refine (CTa.out _).mono ?_); rintro e w3 ⟨rfl, hb3⟩; have HB3 := Lib.hid (thenB HB2.out hb3); clear hb3) | (go_at_call 32; (with_reducible refine (CTb.out _).mono ?_); rintro e w4 ⟨rfl, hb4⟩; have HB4 := Lib.hid (thenB HB3.out hb4); clear hb4))
            go_ret2
            exact ⟨by rw [HE.out]; rfl, thenB HB0.out HB4.out⟩
          · have HE := Lib.hid (cntR_in hc hab hta htb hf)
            have df : decide (4000 < b - a) = false := decide_eq_false hf
            obtain ⟨N, hN⟩ : ∃ N : Nat, b - a = (N : Int) := ⟨(b - a).toNat, by omega⟩
            have hN4 : N ≤ 4000 := by omega
            have CW := Lib.hid (fun w0 (hb : Below wB.heap.size wB w0) => newWorks_any B H s vh a N w0 (HHB.out.call (hb.mono HBB.out)) (Nat.le_trans HBB.out hb.size) hc (by omega) (by omega) (by omega))
            have HWK : Hid (∀ tt L, (dayL H tt).length = L → (0 < L → workB H tt = true) ∧ (¬ 0 < L → workB H tt = false)) := Lib.hid fun tt L h => ⟨fun g => decide_eq_true (by rw [h]; exact g), fun g => decide_eq_false (by rw [h]; exact g)⟩
            have HD := Lib.hid (fun tt => dayV_sp HHB.out tt)
            have w2' : wrap64 (b - a) = (N : Int) := w1.trans hN
            rw [hta] at CTa
            rw [htb] at CTb
            rw [hN, Int.toNat_natCast] at HE
            unfold hoursV at CC CW
            unfold hoursV
            have hdn : decide (4000 < (N : Int)) = false := by rw [← hN]; exact df
            clear hta htb hb0 hlt hR hB hc hf df w1
            go_enter Tryz.func23, Tryz.ntmps23
            go_upto_region 9 with (first | (go_at_call 11; refine (CC.out).mono ?_; rintro e w2 ⟨rfl, hb2⟩; have HB2 := Lib.hid hb2; clear hb2) | (go_at_call 32; (with_reducible refine (CTa.out _).mono ?_); rintro e w3 ⟨rfl, hb3⟩; have HB3 := Lib.hid (thenB HB2.out hb3); clear hb3) | (go_at_call 32; (with_reducible refine (CTb.out _).mono ?_); rintro e w4 ⟨rfl, hb4⟩; have HB4 := Lib.hid (thenB HB3.out hb4); clear hb4))
            clear f0 f1 f2 f3 f4 f5 f6 f7 hwB
            obtain ⟨g0, g1, g2, g3, g4, g5, g6, g7⟩ := HS.out _ HB4.out
            go_upto_region 10 with (go_at_call 33; (with_reducible refine (CW.out _ HB4.out).mono ?_); rintro e w5 ⟨v, rfl, hv, hb5⟩; obtain ⟨oa, cap, hvf⟩ := hv.form; subst hvf; have HV := Lib.hid hv; have HB5 := Lib.hid (thenB HB4.out hb5); clear hb5 hv)
            clear g0 g1 g2 g3 g4 g5 g6 g7
            obtain ⟨z, hz⟩ : ∃ z, w5.heap.size = z := ⟨_, rfl⟩
            obtain ⟨wX, hwX⟩ : ∃ W, w5.alloc (.cells #[.int .i64 a, .slice oa N cap] 68) = W := ⟨_, rfl⟩
            have hX : Below w5.heap.size w5 wX := by rw [← hwX]; exact (Below.refl _ _).alloc (Nat.le_refl _) _
            have HBX := Lib.hid (thenB HB5.out hX)
            have HVX := Lib.hid (HV.out.call hX)
            have hcz : wX.cell? ⟨z, 1, none⟩ = some (.slice oa N cap) := by rw [← hwX, ← hz]; simp
            simp only [hwX, hz]
            clear hX hwX hz hN hdn hab dab ha hbb
            go_wp2_with fail
            go_loop [9, 11] (fun v c => ∃ (N1 : Int) (i : Nat), v = .int .i64 N1 ∧ c = .int .i64 (i : Int) ∧ i ≤ N ∧ 0 ≤ N1 ∧ N1 ≤ i ∧ Hid (N1 = cntS H a i)) (fun _ c => N - (intOf c).toNat)
            case atStart => exact ⟨0, 0, rfl, by simp, by omega, by omega, by omega, Lib.hid rfl⟩
            case round =>
              obtain ⟨N1, i, rfl, rfl, hi, b1, b2, HN⟩ := hrel
              by_cases hiN : i < N
              · obtain ⟨g, rfl, -, -, hcl⟩ := HVX.out.at hiN
                obtain ⟨LN, hLN⟩ : ∃ LN, (dayL H (a + i)).length = LN := ⟨_, rfl⟩
                obtain ⟨od, cd, hvd⟩ := (HD.out (a + i)).form
                rw [hvd, hLN] at hcl
                have HLN := Lib.hid hLN
                have a1 : wrap64 (N1 + 1) = N1 + 1 := wrap_in (InI.mk (by omega) (by omega))
                have k1 : (i : Int) < (N : Int) := by omega
                have k2 : (0 : Int) ≤ (i : Int) := by omega
                clear hLN hvd
                by_cases hl : 0 < LN
                · have HN2 : Hid (N1 + 1 = cntS H a (i + 1)) := Lib.hid (by rw [cntS, if_pos ((HWK.out _ _ HLN.out).1 hl), HN.out])
                  go_wp2_with fail
                  clear a1
                  go_round
                  case rel => exact ⟨N1 + 1, i + 1, rfl, by go_num, by omega, by omega, by omega, HN2⟩
                  case measure => simp [intOf]; omega
                · have HN2 : Hid (N1 = cntS H a (i + 1)) := Lib.hid (by rw [cntS, if_neg (by rw [(HWK.out _ _ HLN.out).2 hl]; decide), HN.out]; omega)
                  have hl0 : LN = 0 := by omega
                  subst hl0
                  go_wp2_with fail
                  clear a1
                  go_round
                  case rel => exact ⟨N1, i + 1, rfl, by go_num, by omega, by omega, by omega, HN2⟩
                  case measure => simp [intOf]; omega
              · have e : i = N := by omega
                have HN2 : Hid (cntR H a b = (N1, 0)) := Lib.hid (by rw [HE.out, HN.out, e])
                clear e
                have k1 : ¬ (i : Int) < (N : Int) := by omega
                go_wp2_with fail
                go_ret2
                exact ⟨by rw [HN2.out]; rfl, thenB HB0.out HBX.out⟩
  · have HE := Lib.hid (show cntR H a b = (0, chk H) from if_pos hc)
    obtain ⟨E, hE⟩ : ∃ E, chk H = E := ⟨_, rfl⟩
    rw [hE] at CC HE hc
    have bE : (E == 0) = false := by simpa using hc
    have bE2 : (E != 0) = true := by simpa using hc
    unfold hoursV at CC
    unfold hoursV
    clear hb0 hlt hR hB hc hE
    go_enter Tryz.func23, Tryz.ntmps23
    go_wp2_with (go_at_call 11; refine (CC.out).mono ?_; rintro e w2 ⟨rfl, hb2⟩; have HB2 := Lib.hid hb2; clear hb2)
    go_ret2
    exact ⟨by rw [HE.out]; rfl, thenB HB0.out HB2.out⟩
end Go.Proofs.YtbgcccfgcdkmdaaGreatDoor
namespace Go.Proofs.YtbgcccfgcdkmdaaGreatDoor
open Go.RowKit Wrk
set_option maxRecDepth 100000 in
set_option maxHeartbeats 16000000 in
theorem rWorkAdd_any (B : Nat) (H : Hrs) (s : Nat → Value) (vh : Value) (d n : Int) (w : World) (hR : HrsR B w s vh H) (hB : B ≤ w.heap.size) : Calls Tryz.prog 21 #[hoursV s vh, .int .i64 d, .int .i64 n] w (AddPost H d n (Value.int .i64) w) := by
  obtain ⟨wB, hwB, ⟨hb0, hlt⟩, f0, f1, f2, f3, f4, f5, f6, f7⟩ := hours_cells s vh w
  have HB0 := Lib.hid hb0
  have HLT := Lib.hid hlt
  have HS : Hid (∀ w', Below wB.heap.size wB w' → (w'.cell? ⟨w.heap.size, 0, none⟩ = some (s 0) ∧ w'.cell? ⟨w.heap.size, 1, none⟩ = some (s 1) ∧ w'.cell? ⟨w.heap.size, 2, none⟩ = some (s 2) ∧ w'.cell? ⟨w.heap.size, 3, none⟩ = some (s 3) ∧ w'.cell? ⟨w.heap.size, 4, none⟩ = some (s 4) ∧ w'.cell? ⟨w.heap.size, 5, none⟩ = some (s 5) ∧ w'.cell? ⟨w.heap.size, 6, none⟩ = some (s 6) ∧ w'.cell? ⟨w.heap.size, 7, none⟩ = some vh)) := Lib.hid fun w' hb => ⟨(hb.cell (p := ⟨w.heap.size, 0, none⟩) HLT.out).trans f0, (hb.cell (p := ⟨w.heap.size, 1, none⟩) HLT.out).trans f1, (hb.cell (p := ⟨w.heap.size, 2, none⟩) HLT.out).trans f2, (hb.cell (p := ⟨w.heap.size, 3, none⟩) HLT.out).trans f3, (hb.cell (p := ⟨w.heap.size, 4, none⟩) HLT.out).trans f4, (hb.cell (p := ⟨w.heap.size, 5, none⟩) HLT.out).trans f5, (hb.cell (p := ⟨w.heap.size, 6, none⟩) HLT.out).trans f6, (hb.cell (p := ⟨w.heap.size, 7, none⟩) HLT.out).trans f7⟩
  have HHB := Lib.hid (hR.call (hb0.mono hB))
  have HBB := Lib.hid (Nat.le_trans hB hb0.size)
  have CC := Lib.hid (hoursCheck_any B H s vh wB HHB.out HBB.out)
  unfold AddPost
  by_cases hc : chk H = 0
  · have CTd := Lib.hid (fun w0 => workThere_any d w0)
    have CT := Lib.hid (fun tt w0 => workThere_any tt w0)
    rw [hc] at CC
    cases ht : thereB d with
    | false =>
      have HE : Hid (addR H d n = (0, 4)) := Lib.hid (by unfold addR; rw [if_neg (by rw [hc]; decide), if_pos ht])
      rw [ht] at CTd
      unfold hoursV at CC
      unfold hoursV
      clear ht hb0 hlt hR hB hc
      go_enter Tryz.func21, Tryz.ntmps21
      go_wp2_with (first | (go_at_call 11; refine (CC.out).mono ?_; rintro e w2 ⟨rfl, hb2⟩; have HB2 := Lib.hid hb2; clear hb2) | (go_at_call 32; (with_reducible refine (CTd.out _).mono ?_); rintro e w3 ⟨rfl, hb3⟩; have HB3 := Lib.hid (thenB HB2.out hb3); clear hb3))
      go_ret2
      exact ⟨by rw [HE.out]; rfl, thenB HB0.out HB3.out⟩
    | true =>
      have hdb := there_bd ht
      by_cases hfar : n < -4000 ∨ 4000 < n
      · have HE := Lib.hid (addR_far hc ht hfar)
        rw [ht] at CTd
        unfold hoursV at CC
        unfold hoursV
        clear ht hb0 hlt hR hB hc
        rcases hfar with h1 | h1
        · go_enter Tryz.func21, Tryz.ntmps21
          go_wp2_with (first | (go_at_call 11; refine (CC.out).mono ?_; rintro e w2 ⟨rfl, hb2⟩; have HB2 := Lib.hid hb2; clear hb2) | (go_at_call 32; (with_reducible refine (CTd.out _).mono ?_); rintro e w3 ⟨rfl, hb3⟩; have HB3 := Lib.hid (thenB HB2.out hb3); clear hb3))
          go_ret2
          exact ⟨by rw [HE.out]; rfl, thenB HB0.out HB3.out⟩
        · have h2 : decide (n < -4000) = false := decide_eq_false (by omega)
          go_enter Tryz.func21, Tryz.ntmps21
          go_wp2_with (first | (go_at_call 11; refine (CC.out).mono ?_; rintro e w2 ⟨rfl, hb2⟩; have HB2 := Lib.hid hb2; clear hb2) | (go_at_call 32; (with_reducible refine (CTd.out _).mono ?_); rintro e w3 ⟨rfl, hb3⟩; have HB3 := Lib.hid (thenB HB2.out hb3); clear hb3))
          go_ret2
          exact ⟨by rw [HE.out]; rfl, thenB HB0.out HB3.out⟩
      · have h1 : decide (n < -4000) = false := decide_eq_false (by omega)
        have h2 : decide (4000 < n) = false := decide_eq_false (by omega)
        have hnb : -4000 ≤ n ∧ n ≤ 4000 := by omega
        have HIN := Lib.hid (addR_in hc ht hnb.1 hnb.2)
        have CW : Hid (∀ lo w0, -1000000 ≤ lo → lo ≤ 3100000 → Below wB.heap.size wB w0 → Calls Tryz.prog 33 #[hoursV s vh, .int .i64 lo, .int .i64 100] w0 fun e w' => ∃ v, e = .returned (.agg #[.int .i64 lo, v]) ∧ WksL w' w0.heap.size v 100 (fun i => dayV H s (lo + i)) ∧ Below w0.heap.size w0 w') := Lib.hid (fun lo w0 l1 l2 hb => newWorks_any B H s vh lo 100 w0 (HHB.out.call (hb.mono HBB.out)) (Nat.le_trans HBB.out hb.size) hc l1 l2 (by decide))
        have HW : Hid (∀ tt, thereB tt = true → -800000 ≤ tt ∧ tt ≤ 3000000) := Lib.hid fun tt h => there_bd h
        have HWK : Hid (∀ tt L, (dayL H tt).length = L → (0 < L → workB H tt = true) ∧ (¬ 0 < L → workB H tt = false)) := Lib.hid fun tt L h => ⟨fun g => decide_eq_true (by rw [h]; exact g), fun g => decide_eq_false (by rw [h]; exact g)⟩
        have HD := Lib.hid (fun tt => dayV_sp HHB.out tt)
        rw [ht] at CTd
        unfold hoursV at CC CW
        unfold hoursV
        clear ht hb0 hlt hR hB hc hfar
        go_enter Tryz.func21, Tryz.ntmps21
        go_upto_if 33 with (first | (go_at_call 11; refine (CC.out).mono ?_; rintro e w2 ⟨rfl, hb2⟩; have HB2 := Lib.hid hb2; clear hb2) | (go_at_call 32; (with_reducible refine (CTd.out _).mono ?_); rintro e w3 ⟨rfl, hb3⟩; have HB3 := Lib.hid (thenB HB2.out hb3); clear hb3))
        clear f0 f1 f2 f3 f4 f5 f6 f7 hwB h1 h2
        go_cut [9] from 33 to 33 (fun v9 wx => ∃ S : Int, v9 = .int .i64 S ∧ Hid ((n < 0 ∧ S = -1) ∨ (0 ≤ n ∧ S = 1)) ∧ w3 = wx)
        case first =>
          by_cases h0 : n < 0
          · have HN0 := Lib.hid h0
            go_wp2_with fail
            go_meet
            exact ⟨-1, rfl, Lib.hid (.inl ⟨HN0.out, rfl⟩), rfl⟩
          · have h0' : decide (n < 0) = false := decide_eq_false h0
            go_wp2_with fail
            go_meet
            exact ⟨1, rfl, Lib.hid (.inr ⟨by omega, rfl⟩), rfl⟩
        case rest =>
        obtain ⟨S, rfl, HS0, rfl⟩ := hcut
        go_upto_if 35 with fail
        go_cut [2, 10] from 35 to 37 (fun v2 v10 wx => ∃ N0 D : Int, v2 = .int .i64 N0 ∧ v10 = .int .i64 D ∧ Hid (-4000 ≤ N0 ∧ N0 ≤ 4000 ∧ -800001 ≤ D ∧ D ≤ 3000000 ∧ (S = 1 ∨ S = -1) ∧ 1 ≤ N0 * S ∧ N0 * S ≤ 4000 ∧ addR H d n = addS H S 4000 D (N0 * S)) ∧ w3 = wx)
        case first =>
          by_cases hz : n = 0
          · have HI : Hid (-4000 ≤ (1 : Int) ∧ (1 : Int) ≤ 4000 ∧ -800001 ≤ d - 1 ∧ d - 1 ≤ 3000000 ∧ (S = 1 ∨ S = -1) ∧ 1 ≤ 1 * S ∧ 1 * S ≤ 4000 ∧ addR H d n = addS H S 4000 (d - 1) (1 * S)) := Lib.hid (by
              rcases HS0.out with ⟨g1, g2⟩ | ⟨g1, g2⟩
              · omega
              · subst g2
                refine ⟨by omega, by omega, by omega, by omega, .inl rfl, by omega, by omega, ?_⟩
                rw [HIN.out, if_pos hz]; rfl)
            subst hz
            have a1 : wrap64 (d - 1) = d - 1 := wrap_in (InI.mk (by omega) (by omega))
            go_wp2_with fail
            go_meet
            exact ⟨1, d - 1, rfl, rfl, HI, rfl⟩
          · have HI : Hid (-4000 ≤ n ∧ n ≤ 4000 ∧ -800001 ≤ d ∧ d ≤ 3000000 ∧ (S = 1 ∨ S = -1) ∧ 1 ≤ n * S ∧ n * S ≤ 4000 ∧ addR H d n = addS H S 4000 d (n * S)) := Lib.hid (by
              rcases HS0.out with ⟨g1, g2⟩ | ⟨g1, g2⟩
              · subst g2
                refine ⟨by omega, by omega, by omega, by omega, .inr rfl, by omega, by omega, ?_⟩
                rw [HIN.out, if_neg hz, if_pos g1, show n * -1 = -n by omega]
              · subst g2
                refine ⟨by omega, by omega, by omega, by omega, .inl rfl, by omega, by omega, ?_⟩
                rw [HIN.out, if_neg hz, if_neg (by omega), show n * 1 = n by omega])
            have bz : (n == 0) = false := by simpa using hz
            clear hz
            go_wp2_with fail
            go_meet
            exact ⟨n, d, rfl, rfl, HI, rfl⟩
        case rest =>
        obtain ⟨N0, D, rfl, rfl, HI, rfl⟩ := hcut
        obtain ⟨-, -, d1, d2, hS, n1, n2, hE⟩ := HI.out
        obtain ⟨N, hN⟩ : ∃ N, N0 * S = N := ⟨_, rfl⟩
        rw [hN] at hE n1 n2
        have HE := Lib.hid hE
        have m1 : wrap64 (N0 * S) = N := by rw [hN]; exact wrap_in (InI.mk (by omega) (by omega))
        have hSb : -1 ≤ S ∧ S ≤ 1 := by omega
        have HSS := Lib.hid hS
        have M1 := Lib.hid m1
        clear hE hS hN HI HIN m1
        go_wp2_with fail
        go_loopw [2, 10, 11] (fun v2 v10 c wr => ∃ (N1 D1 : Int) (i : Nat), v2 = .int .i64 N1 ∧ v10 = .int .i64 D1 ∧ c = .int .i64 ((100 * i : Nat) : Int) ∧ i ≤ 40 ∧ 1 ≤ N1 ∧ N1 ≤ 4000 ∧ -800001 ≤ D1 ∧ D1 ≤ 3000000 ∧ Hid (addR H d n = addS H S (4000 - 100 * i) D1 N1) ∧ Hid (Below wB.heap.size wB wr)) (fun _ _ c _ => 4000 - (intOf c).toNat)
        case atStart => exact ⟨_, D, 0, rfl, rfl, by simp, by omega, by rw [M1.out]; exact n1, by rw [M1.out]; exact n2, d1, d2, by rw [M1.out]; exact HE, HB3⟩
        case round =>
          obtain ⟨N1, D1, i, rfl, rfl, rfl, hi, b1, b2, b3, b4, HE1, HBk⟩ := hrel
          by_cases hik : i < 40
          · have k1 : ((100 * i : Nat) : Int) < 4000 := by omega
            have HLO : Hid (∃ lo, -1000000 ≤ lo ∧ lo ≤ 3100000 ∧ (S = -1 → lo = D1 - 100) ∧ (S = 1 → lo = D1 + 1)) := Lib.hid (by
              rcases HSS.out with g | g
              · exact ⟨D1 + 1, by omega, by omega, fun h => by omega, fun _ => rfl⟩
              · exact ⟨D1 - 100, by omega, by omega, fun _ => rfl, fun h => by omega⟩)
            obtain ⟨lo, l1, l2, hlo1, hlo2⟩ := HLO.out
            have HL := Lib.hid (And.intro hlo1 hlo2)
            have CWl := Lib.hid (fun w0 hb => CW.out lo w0 l1 l2 hb)
            have a1 : wrap64 (D1 + 1) = D1 + 1 := wrap_in (InI.mk (by omega) (by omega))
            have a2 : wrap64 (D1 - 100) = D1 - 100 := wrap_in (InI.mk (by omega) (by omega))
            clear hlo1 hlo2 HLO
            obtain ⟨g0, g1, g2, g3, g4, g5, g6, g7⟩ := HS.out _ HBk.out
            go_upto_if 48 with fail
            go_cut [12] from 48 to 50 (fun v12 wx => ∃ X : Int, v12 = .int .i64 X ∧ Hid (lo = X) ∧ wr = wx)
            case first =>
              rcases HSS.out with g | g
              · have HG := Lib.hid g
                clear g
                go_wp2_with fail
                all_goals first
                  | (exfalso; have := HG.out; omega)
                  | (go_meet; exact ⟨D1 + 1, rfl, Lib.hid (HL.out.2 HG.out), rfl⟩)
              · have HG := Lib.hid g
                clear g
                go_wp2_with fail
                all_goals first
                  | (exfalso; have := HG.out; omega)
                  | (go_meet; exact ⟨D1 - 100, rfl, Lib.hid (HL.out.1 HG.out), rfl⟩)
            case rest =>
            obtain ⟨X, rfl, HXL, rfl⟩ := hcut
            have hxl := HXL.out
            clear HXL
            subst hxl
            clear a1 a2
            go_upto_region 19 with (go_at_call 33; (with_reducible refine (CWl.out _ HBk.out).mono ?_); rintro e w5 ⟨v, rfl, hv, hb5⟩; obtain ⟨oa, cap, hvf⟩ := hv.form; subst hvf; have HV := Lib.hid hv; have HB5 := Lib.hid (thenB HBk.out hb5); clear hb5 hv)
            clear g0 g1 g2 g3 g4 g5 g6 g7
            obtain ⟨z, hz⟩ : ∃ z, w5.heap.size = z := ⟨_, rfl⟩
            obtain ⟨wX, hwX⟩ : ∃ W, w5.alloc (.cells #[.int .i64 lo, .slice oa 100 cap] 68) = W := ⟨_, rfl⟩
            have hX : Below w5.heap.size w5 wX := by rw [← hwX]; exact (Below.refl _ _).alloc (Nat.le_refl _) _
            have HBX := Lib.hid (thenB HB5.out hX)
            have HVX := Lib.hid (HV.out.call hX)
            have HCZ := Lib.hid (show wX.cell? ⟨z, 1, none⟩ = some (.slice oa 100 cap) ∧ z < wX.heap.size by rw [← hwX, ← hz]; simp)
            simp only [hwX, hz]
            clear hX hwX hz
            go_wp2_with fail
            go_loopw [2, 10, 14] (fun v2 v10 c wy => ∃ (N2 D2 : Int) (k : Nat), v2 = .int .i64 N2 ∧ v10 = .int .i64 D2 ∧ c = .int .i64 (k : Int) ∧ k ≤ 100 ∧ 1 ≤ N2 ∧ N2 ≤ 4000 ∧ -800001 ≤ D2 ∧ D2 ≤ 3000000 ∧ Hid ((S = 1 → D2 = lo - 1 + k) ∧ (S = -1 → D2 = lo + 100 - k)) ∧ Hid (addR H d n = addS H S (4000 - 100 * i - k) D2 N2) ∧ Hid (Below wX.heap.size wX wy)) (fun _ _ c _ => 100 - (intOf c).toNat)
            case atStart => exact ⟨N1, D1, 0, rfl, rfl, by simp, by omega, b1, b2, b3, b4, Lib.hid ⟨fun h => by have := HL.out.2 h; omega, fun h => by have := HL.out.1 h; omega⟩, HE1, Lib.hid (Below.refl _ _)⟩
            case round =>
              obtain ⟨N2, D2, k, rfl, rfl, rfl, hk, c1, c2, c3, c4, HDK, HE2, HBy⟩ := hrel
              by_cases hk1 : k < 100
              · have q1 : (k : Int) < 100 := by omega
                have a1 : wrap64 (D2 + S) = D2 + S := wrap_in (InI.mk (by omega) (by omega))
                have CTn := Lib.hid (fun w0 => CT.out (D2 + S) w0)
                have HFU := Lib.hid (show 4000 - 100 * i - k = (4000 - 100 * i - (k + 1)) + 1 by omega)
                cases ht2 : thereB (D2 + S) with
                | false =>
                  have HR4 : Hid (addR H d n = (0, 4)) := Lib.hid (by rw [HE2.out, HFU.out, addS_out ht2])
                  rw [ht2] at CTn
                  clear ht2
                  go_wp2_with (go_at_call 32; (with_reducible refine (CTn.out _).mono ?_); rintro e w6 ⟨rfl, hb6⟩; have HB6 := Lib.hid (thenB HBy.out hb6); clear hb6)
                  go_ret2
                  exact ⟨by rw [HR4.out]; rfl, thenB HB0.out (thenB HBX.out HB6.out)⟩
                | true =>
                  have hdb2 := HW.out _ ht2
                  have hj0 : 0 ≤ D2 + S - lo ∧ D2 + S - lo < 100 := by
                    rcases HSS.out with g | g
                    · have := HDK.out.1 g; omega
                    · have := HDK.out.2 g; omega
                  obtain ⟨gg, rfl, -, hgl, hcl⟩ := HVX.out.at (k := (D2 + S - lo).toNat) (by omega)
                  have HJD : lo + (((D2 + S - lo).toNat : Nat) : Int) = D2 + S := by omega
                  obtain ⟨LN, hLN⟩ : ∃ LN, (dayL H (D2 + S)).length = LN := ⟨_, rfl⟩
                  obtain ⟨od, cd, hvd⟩ := (HD.out (D2 + S)).form
                  rw [HJD, hvd, hLN] at hcl
                  have HLN := Lib.hid hLN
                  have HCL := Lib.hid (fun (w' : World) (hb : Below wX.heap.size wX w') => And.intro ((hb.cell (p := ⟨gg, (D2 + S - lo).toNat, none⟩) hgl).trans hcl) ((hb.cell (p := ⟨z, 1, none⟩) HCZ.out.2).trans HCZ.out.1))
                  have HTT := Lib.hid ht2
                  have HDK2 : Hid ((S = 1 → D2 + S = lo - 1 + ((k + 1 : Nat) : Int)) ∧ (S = -1 → D2 + S = lo + 100 - ((k + 1 : Nat) : Int))) := Lib.hid ⟨fun h => by have := HDK.out.1 h; omega, fun h => by have := HDK.out.2 h; omega⟩
                  have e1 : wrap64 (D2 + S - lo) = D2 + S - lo := wrap_in (InI.mk (by omega) (by omega))
                  obtain ⟨j1, j2⟩ := hj0
                  have E1 := Lib.hid e1
                  rw [ht2] at CTn
                  clear ht2 hLN hvd hcl hgl HJD e1
                  by_cases hl : 0 < LN
                  · have HWB := Lib.hid ((HWK.out _ _ HLN.out).1 hl)
                    by_cases hN1 : N2 = 1
                    · have HRH : Hid (addR H d n = (D2 + S, 0)) := Lib.hid (by rw [HE2.out, HFU.out, hN1, addS_hit HTT.out HWB.out])
                      subst hN1
                      have e1 := E1.out
                      go_upto_region 25 with (go_at_call 32; (with_reducible refine (CTn.out _).mono ?_); rintro e w6 ⟨rfl, hb6⟩; have HB6 := Lib.hid (thenB HBy.out hb6); clear hb6)
                      obtain ⟨r1, r2⟩ := HCL.out _ HB6.out
                      go_wp2_with fail
                      go_ret2
                      exact ⟨by rw [HRH.out]; rfl, thenB HB0.out (thenB HBX.out HB6.out)⟩
                    · have HE3 : Hid (addR H d n = addS H S (4000 - 100 * i - (k + 1)) (D2 + S) (N2 - 1)) := Lib.hid (by rw [HE2.out, HFU.out, addS_next HTT.out HWB.out hN1])
                      have bz : (N2 - 1 == 0) = false := by simp; omega
                      have a2 : wrap64 (N2 - 1) = N2 - 1 := wrap_in (InI.mk (by omega) (by omega))
                      have e1 := E1.out
                      go_upto_region 25 with (go_at_call 32; (with_reducible refine (CTn.out _).mono ?_); rintro e w6 ⟨rfl, hb6⟩; have HB6 := Lib.hid (thenB HBy.out hb6); clear hb6)
                      obtain ⟨r1, r2⟩ := HCL.out _ HB6.out
                      go_wp2_with fail
                      clear bz a2 a1 e1
                      go_roundw
                      case rel => exact ⟨N2 - 1, D2 + S, k + 1, rfl, rfl, by go_num, by omega, by omega, by omega, by omega, by omega, HDK2, HE3, HB6⟩
                      case measure => simp [intOf]; omega
                  · have HWB := Lib.hid ((HWK.out _ _ HLN.out).2 hl)
                    have hl0 : LN = 0 := by omega
                    subst hl0
                    have HE3 : Hid (addR H d n = addS H S (4000 - 100 * i - (k + 1)) (D2 + S) N2) := Lib.hid (by rw [HE2.out, HFU.out, addS_free HTT.out HWB.out])
                    have bz : (N2 == 0) = false := by simp; omega
                    have e1 := E1.out
                    go_upto_region 25 with (go_at_call 32; (with_reducible refine (CTn.out _).mono ?_); rintro e w6 ⟨rfl, hb6⟩; have HB6 := Lib.hid (thenB HBy.out hb6); clear hb6)
                    obtain ⟨r1, r2⟩ := HCL.out _ HB6.out
                    go_wp2_with fail
                    clear bz a1 e1
                    go_roundw
                    case rel => exact ⟨N2, D2 + S, k + 1, rfl, rfl, by go_num, by omega, by omega, by omega, by omega, by omega, HDK2, HE3, HB6⟩
                    case measure => simp [intOf]; omega
              · have e : k = 100 := by omega
                subst e
                have a3 : wrap64 (((100 * i : Nat) : Int) + 100) = ((100 * (i + 1) : Nat) : Int) := (wrap_in (InI.mk (by omega) (by omega))).trans (by omega)
                have HE3 : Hid (addR H d n = addS H S (4000 - 100 * (i + 1)) D2 N2) := Lib.hid (by rw [HE2.out, show 4000 - 100 * i - 100 = 4000 - 100 * (i + 1) by omega])
                have HB9 := Lib.hid (thenB HBX.out HBy.out)
                go_wp2_with fail
                clear a3
                go_roundw
                case rel => first | exact ⟨N2, D2, i + 1, rfl, rfl, rfl, by omega, c1, c2, c3, c4, HE3, HB9⟩ | ((repeat apply Exists.intro); exact ⟨⟨rfl, rfl, rfl, by omega, c1, c2, c3, c4, HE3, HB9⟩, rfl⟩)
                case measure => simp [intOf]; omega
          · have e : i = 40 := by omega
            subst e
            have HR12 : Hid (addR H d n = (0, 12)) := Lib.hid (by rw [HE1.out]; rfl)
            have k1 : ¬ ((100 * 40 : Nat) : Int) < 4000 := by omega
            go_wp2_with fail
            go_ret2
            exact ⟨by rw [HR12.out]; rfl, thenB HB0.out HBk.out⟩
  · have HE := Lib.hid (show addR H d n = (0, chk H) from if_pos hc)
    obtain ⟨E, hE⟩ : ∃ E, chk H = E := ⟨_, rfl⟩
    rw [hE] at CC HE hc
    have bE : (E == 0) = false := by simpa using hc
    have bE2 : (E != 0) = true := by simpa using hc
    unfold hoursV at CC
    unfold hoursV
    clear hb0 hlt hR hB hc hE
    go_enter Tryz.func21, Tryz.ntmps21
    go_wp2_with (go_at_call 11; refine (CC.out).mono ?_; rintro e w2 ⟨rfl, hb2⟩; have HB2 := Lib.hid hb2; clear hb2)
    go_ret2
    exact ⟨by rw [HE.out]; rfl, thenB HB0.out HB2.out⟩
end Go.Proofs.YtbgcccfgcdkmdaaGreatDoor
namespace Go.Proofs.YtbgcccfgcdkmdaaGreatDoor
open Go.RowKit Wrk
theorem wdL_len (H : Hrs) (t : Int) : (wdL H t).length ≤ 60 := by
  unfold wdL
  split
  · rename_i h
    have hc : chk H = 0 := by
      by_cases g : chk H = 0
      · exact g
      · rw [wdE_bad g] at h; exact absurd h g
    exact dayL_len hc t
  · simp
set_option maxRecDepth 100000 in
set_option maxHeartbeats 16000000 in
theorem workDays_walk (s : Nat → Value) (vh : Value) (H : Hrs) (d n b : Int) (w : World) (hT : ErrT w) (hr : RomanT w) (hR : HrsR w.heap.size w s vh H) (hn : InI n) : Calls Tryz.prog 6 #[hoursV s vh, .int .i64 d, .int .i64 n, .int .i64 b] w fun e w' => e = .returned (.bool true) ∧ Below w.heap.size w w' := by
  obtain ⟨wB, hwB, ⟨hb0, hlt⟩, f0, f1, f2, f3, f4, f5, f6, f7⟩ := hours_cells s vh w
  have HB0 := Lib.hid hb0
  have HLT := Lib.hid hlt
  have HS : Hid (∀ w', Below wB.heap.size wB w' → (w'.cell? ⟨w.heap.size, 0, none⟩ = some (s 0) ∧ w'.cell? ⟨w.heap.size, 1, none⟩ = some (s 1) ∧ w'.cell? ⟨w.heap.size, 2, none⟩ = some (s 2) ∧ w'.cell? ⟨w.heap.size, 3, none⟩ = some (s 3) ∧ w'.cell? ⟨w.heap.size, 4, none⟩ = some (s 4) ∧ w'.cell? ⟨w.heap.size, 5, none⟩ = some (s 5) ∧ w'.cell? ⟨w.heap.size, 6, none⟩ = some (s 6) ∧ w'.cell? ⟨w.heap.size, 7, none⟩ = some vh)) := Lib.hid fun w' hb => ⟨(hb.cell (p := ⟨w.heap.size, 0, none⟩) HLT.out).trans f0, (hb.cell (p := ⟨w.heap.size, 1, none⟩) HLT.out).trans f1, (hb.cell (p := ⟨w.heap.size, 2, none⟩) HLT.out).trans f2, (hb.cell (p := ⟨w.heap.size, 3, none⟩) HLT.out).trans f3, (hb.cell (p := ⟨w.heap.size, 4, none⟩) HLT.out).trans f4, (hb.cell (p := ⟨w.heap.size, 5, none⟩) HLT.out).trans f5, (hb.cell (p := ⟨w.heap.size, 6, none⟩) HLT.out).trans f6, (hb.cell (p := ⟨w.heap.size, 7, none⟩) HLT.out).trans f7⟩
  have hBB := Nat.le_trans (Nat.le_refl w.heap.size) hb0.size
  have P1 := Lib.hid (fun w0 (hb : Below wB.heap.size wB w0) => plainDay_any w.heap.size H s vh d w0 ((hT.call hb0).call hb) (RomanT.call (RomanT.call hr hb0) hb) ((hR.call hb0).call (hb.mono hBB)) (Nat.le_trans hBB hb.size))
  have P2 := Lib.hid (fun w0 (hb : Below wB.heap.size wB w0) => rWorkDay_any w.heap.size H s vh d w0 ((hR.call hb0).call (hb.mono hBB)) (Nat.le_trans hBB hb.size))
  have P3 := Lib.hid (fun w0 (hb : Below wB.heap.size wB w0) => plainAdd_any w.heap.size H s vh d n w0 ((hT.call hb0).call hb) (RomanT.call (RomanT.call hr hb0) hb) ((hR.call hb0).call (hb.mono hBB)) (Nat.le_trans hBB hb.size) hn.1 hn.2)
  have P4 := Lib.hid (fun w0 (hb : Below wB.heap.size wB w0) => rWorkAdd_any w.heap.size H s vh d n w0 ((hR.call hb0).call (hb.mono hBB)) (Nat.le_trans hBB hb.size))
  have P5 := Lib.hid (fun w0 (hb : Below wB.heap.size wB w0) => plainCount_any w.heap.size H s vh d b w0 ((hT.call hb0).call hb) (RomanT.call (RomanT.call hr hb0) hb) ((hR.call hb0).call (hb.mono hBB)) (Nat.le_trans hBB hb.size))
  have P6 := Lib.hid (fun w0 (hb : Below wB.heap.size wB w0) => rWorkCount_any w.heap.size H s vh d b w0 ((hR.call hb0).call (hb.mono hBB)) (Nat.le_trans hBB hb.size))
  unfold WdPost at P1 P2
  unfold AddPost at P3 P4
  unfold CntPost at P5 P6
  have HLEN := Lib.hid (wdL_len H d)
  obtain ⟨E, hE⟩ : ∃ E, wdE H d = E := ⟨_, rfl⟩
  rw [hE] at P1 P2
  obtain ⟨L, hL⟩ : ∃ L, wdL H d = L := ⟨_, rfl⟩
  rw [hL] at P1 P2 HLEN
  obtain ⟨A, hA⟩ : ∃ A, addR H d n = A := ⟨_, rfl⟩
  rw [hA] at P3 P4
  obtain ⟨C, hC⟩ : ∃ C, cntR H d b = C := ⟨_, rfl⟩
  rw [hC] at P5 P6
  obtain ⟨A1, A2⟩ := A
  obtain ⟨C1, C2⟩ := C
  simp only at P3 P4 P5 P6
  unfold hoursV at P1 P2 P3 P4 P5 P6
  unfold hoursV
  have q1 : (E == E) = true := beq_self_eq_true _
  have q2 : (A1 == A1) = true := beq_self_eq_true _
  have q3 : (A2 == A2) = true := beq_self_eq_true _
  have q4 : (C1 == C1) = true := beq_self_eq_true _
  have q5 : (C2 == C2) = true := beq_self_eq_true _
  clear hb0 hlt hr hR hT hBB hn hE hL hA hC
  go_enter Tryz.func6, Tryz.ntmps6
  go_upto_region 2 with (go_at_call 18; (with_reducible refine (P1.out _ (Below.refl _ _)).mono ?_); rintro e w2 ⟨v1, rfl, hv1, hb2⟩; have HV1 := Lib.hid hv1; have HB2 := Lib.hid hb2; clear hb2 hv1)
  clear f0 f1 f2 f3 f4 f5 f6 f7 hwB
  obtain ⟨g0, g1, g2, g3, g4, g5, g6, g7⟩ := HS.out _ HB2.out
  go_upto_region 3 with (go_at_call 19; (with_reducible refine (P2.out _ HB2.out).mono ?_); rintro e w3 ⟨v2, rfl, hv2, hb3⟩; have HV2 := Lib.hid hv2; have HV1b := Lib.hid (HV1.out.call hb3); have HB3 := Lib.hid (thenB HB2.out hb3); have HC3 := Lib.hid hb3.size; clear hb3 hv2)
  clear g0 g1 g2 g3 g4 g5 g6 g7
  obtain ⟨g0, g1, g2, g3, g4, g5, g6, g7⟩ := HS.out _ HB3.out
  go_upto_region 4 with (go_at_call 20; (with_reducible refine (P3.out _ HB3.out).mono ?_); rintro e w4 ⟨rfl, hb4⟩; have HX4 := Lib.hid hb4; have HB4 := Lib.hid (thenB HB3.out hb4); clear hb4)
  clear g0 g1 g2 g3 g4 g5 g6 g7
  obtain ⟨g0, g1, g2, g3, g4, g5, g6, g7⟩ := HS.out _ HB4.out
  go_upto_region 5 with (go_at_call 21; (with_reducible refine (P4.out _ HB4.out).mono ?_); rintro e w5 ⟨rfl, hb5⟩; have HX5 := Lib.hid (thenB HX4.out hb5); have HB5 := Lib.hid (thenB HB4.out hb5); clear hb5)
  clear g0 g1 g2 g3 g4 g5 g6 g7
  obtain ⟨g0, g1, g2, g3, g4, g5, g6, g7⟩ := HS.out _ HB5.out
  go_upto_region 6 with (go_at_call 22; (with_reducible refine (P5.out _ HB5.out).mono ?_); rintro e w6 ⟨rfl, hb6⟩; have HX6 := Lib.hid (thenB HX5.out hb6); have HB6 := Lib.hid (thenB HB5.out hb6); clear hb6)
  clear g0 g1 g2 g3 g4 g5 g6 g7
  obtain ⟨g0, g1, g2, g3, g4, g5, g6, g7⟩ := HS.out _ HB6.out
  go_upto_region 7 with (go_at_call 23; (with_reducible refine (P6.out _ HB6.out).mono ?_); rintro e w7 ⟨rfl, hb7⟩; have HX7 := Lib.hid (thenB HX6.out hb7); have HB7 := Lib.hid (thenB HB6.out hb7); clear hb7)
  clear g0 g1 g2 g3 g4 g5 g6 g7
  have CLi := Lib.hid (listSp_same v1 v2 w2.heap.size w3.heap.size L w7 (Nat.le_trans HLEN.out (by decide)) (Nat.le_trans HC3.out HX7.out.size) HX7.out.size (HV1b.out.call (HX7.out.mono HC3.out)) (HV2.out.call HX7.out))
  go_wp2_with (go_at_call 24; (with_reducible refine (CLi.out).mono ?_); rintro e w8 ⟨rfl, hb8⟩; have HB8 := Lib.hid (thenB HB7.out hb8); clear hb8)
  go_ret
  exact ⟨rfl, thenB HB0.out HB8.out⟩
end Go.Proofs.YtbgcccfgcdkmdaaGreatDoor
namespace Go.Proofs.YtbgcccfgcdkmdaaGreatDoor
open Go.ChangeShapes Go.WideShapes Go.ChangeAt Go.RowKit Go.Joins Go.Deep Wrk
theorem cells_of {W : World} {base : Nat} {a : Addr} {n : Nat} {cs : List Value} (h : W.cells? base a n = some cs) (j : Nat) (u : Value) (hu : cs[j]? = some u) : W.cell? (a.add j) = some u := by
  obtain ⟨_, hcl, hat⟩ := World.cells?_some h
  have hj : j < n := by rw [← hcl]; exact (List.getElem?_eq_some_iff.1 hu).1
  rw [hat j hj, hu]
theorem ints_of {H : Type} {enc : TypeId × Value → H} {W : World} {base fuel : Nat} {held : Bool} {t : TypeId} {fs : Array Field} {cs : List Value} {x : DataW H × List MemPlace}
    (hs : Tryz.prog.underlying t = some (.struct fs)) (hone : oneCellFields Tryz.prog fs = true) (hC : Tryz.prog.cellsOf t = fs.size) (hI : ∀ (j : Nat) (f : Field), fs[j]? = some f → ∃ k, Tryz.prog.underlying f.type = some (.int k) ∧ k = .i64)
    (h : DataW.trod enc Tryz.prog W base (fun _ => true) held fuel t cs = some x) : cs.length = fs.size ∧ ∀ j, j < fs.size → ∃ q : Int, cs[j]? = some (.int .i64 q) := by
  obtain ⟨xs, n, _, hx, hl, hlen, hr⟩ := DataW.trod_struct hs h
  have hll : cs.length = fs.size := hl.trans hC
  refine ⟨hll, fun j hj => ?_⟩
  obtain ⟨ho, hk⟩ := hone_of hone j fs[j] (Array.getElem?_eq_getElem hj)
  have h1 := hr j fs[j] (Array.getElem?_eq_getElem hj)
  rw [ho, hk] at h1
  have hone' : (cs.drop j).take 1 = [cs[j]'(by omega)] := by
    rw [List.drop_eq_getElem_cons (by omega)]
    rfl
  rw [hone', List.getElem?_eq_getElem (by omega)] at h1
  obtain ⟨k, hk1, rfl⟩ := hI j fs[j] (Array.getElem?_eq_getElem hj)
  obtain ⟨q, hq, _⟩ := DataW.trod_int hk1 h1
  rw [List.getElem?_eq_getElem (by omega)]
  simp at hq
  exact ⟨q, by rw [hq]⟩
/-- A slice that came in, each element by what it is at. -/
theorem open_cells {H : Type} {enc : TypeId × Value → H} {P : Program} {W : World} {base : Nat} {held : Bool} {t e : TypeId} {fuel : Nat} {v : Value} {x : DataW H × List MemPlace} {α : Type} (d0 : α) (R : α → List Value → Prop) (ht : P.underlying t = some (.slice e)) (h : DataW.trod enc P W base (fun _ => true) held fuel t [v] = some x)
    (each : ∀ n cs y, DataW.trod enc P W base (fun _ => true) held n e cs = some y → ∃ q, R q cs) :
    ∃ (oa : Option Addr) (cap : Nat) (L : List α), v = .slice oa L.length cap ∧ (0 < L.length → ∃ a, oa = some a) ∧ (∀ a, oa = some a → ∀ i, i < L.length → ∃ cs, W.cells? base (a.add (i * P.cellsOf e)) (P.cellsOf e) = some cs ∧ R (L.getD i d0) cs) := by
  rcases open_slice ht h with ⟨hcs, rfl⟩ | ⟨a, len, cap, m, n, D, Pl, hcs, hb, hl, hm, hmm, rfl, hi⟩
  · obtain rfl : v = .slice none 0 0 := by simpa using hcs
    exact ⟨none, 0, [], rfl, fun h => absurd h (Nat.lt_irrefl 0), (fun a h => by cases h)⟩
  · obtain rfl : v = .slice (some a) len cap := by simpa using hcs
    simp only [if_true] at hmm
    have one : ∀ i, i < len → ∃ q, ∃ cs, W.cells? base (a.add (i * P.cellsOf e)) (P.cellsOf e) = some cs ∧ R q cs := fun i hil => by
      obtain ⟨cs, h1, h2⟩ := hi i (by omega)
      obtain ⟨q, hq⟩ := each n cs _ h2
      exact ⟨q, cs, h1, hq⟩
    have : Inhabited α := ⟨d0⟩
    obtain ⟨q, hq⟩ := choose_lt one
    have hll : ((List.range len).map q).length = len := by simp
    refine ⟨some a, cap, (List.range len).map q, by rw [hll], fun _ => ⟨a, rfl⟩, fun b hb => ?_⟩
    injection hb with hb
    subst hb
    intro i hi
    rw [hll] at hi
    rw [show ((List.range len).map q).getD i d0 = q i by simp [List.getD, hi]]
    exact hq i hi
set_option maxRecDepth 100000 in
theorem open_vsp {H : Type} {enc : TypeId × Value → H} {W : World} {base fuel : Nat} {held : Bool} {v : Value} {x : DataW H × List MemPlace} (h : DataW.trod enc Tryz.prog W base (fun _ => true) held fuel 22 [v] = some x) :
    ∃ L, VSp W.heap.size W v L := by
  obtain ⟨oa, cap, L, rfl, h1, h2⟩ := open_cells ((0, 0) : Int × Int) (fun q cs => cs = [.int .i64 q.1, .int .i64 q.2]) Tryz.underlying22 h fun n cs y hy => by
    obtain ⟨hl, hq⟩ := ints_of Tryz.underlying47 (by kernel_rfl) (by kernel_rfl) (fun j f hf => by
      match j, hf with
      | 0, hf => obtain rfl := Option.some.inj hf; exact ⟨_, Tryz.underlying3, rfl⟩
      | 1, hf => obtain rfl := Option.some.inj hf; exact ⟨_, Tryz.underlying3, rfl⟩
      | j + 2, hf => simp at hf) hy
    have hl2 : cs.length = 2 := hl
    obtain ⟨q0, e0⟩ := hq 0 (by decide)
    obtain ⟨q1, e1⟩ := hq 1 (by decide)
    match cs, hl2 with
    | [u0, u1], _ =>
      simp at e0 e1
      exact ⟨(q0, q1), by rw [e0, e1]⟩
  have hce : Tryz.prog.cellsOf 47 = 2 := by kernel_rfl
  have cell : ∀ a, oa = some a → ∀ i, i < L.length → W.cell? (a.add (i * 2)) = some (.int .i64 (L.getD i (0, 0)).1) ∧ W.cell? ((a.add (i * 2)).add 1) = some (.int .i64 (L.getD i (0, 0)).2) := fun a ha i hi => by
    obtain ⟨cs, g1, g2⟩ := h2 a ha i hi
    rw [hce] at g1
    have q0 := cells_of g1 0 _ (by rw [g2]; rfl)
    have q1 := cells_of g1 1 _ (by rw [g2]; rfl)
    exact ⟨by simpa [Go.Deep.add_add] using q0, q1⟩
  refine ⟨L, oa, cap, rfl, h1, fun a ha => ⟨fun h0 => ?_, cell a ha⟩⟩
  have := World.block_lt_of_cell? _ _ (cell a ha 0 h0).1
  rwa [addr_block] at this
set_option maxRecDepth 100000 in
theorem open_vho {H : Type} {enc : TypeId × Value → H} {W : World} {base fuel : Nat} {held : Bool} {v : Value} {x : DataW H × List MemPlace} (h : DataW.trod enc Tryz.prog W base (fun _ => true) held fuel 24 [v] = some x) :
    ∃ L, VHo W.heap.size W v L := by
  obtain ⟨oa, cap, L, rfl, h1, h2⟩ := open_cells hol0 (fun q cs => ∀ k, k < 10 → cs[k]? = some (.int .i64 (fld q k))) Tryz.underlying24 h fun n cs y hy => by
    obtain ⟨hl, hq⟩ := ints_of Tryz.underlying59 (by kernel_rfl) (by kernel_rfl) (fun j f hf => by
      match j, hf with
      | 0, hf => obtain rfl := Option.some.inj hf; exact ⟨_, Tryz.underlying3, rfl⟩
      | 1, hf => obtain rfl := Option.some.inj hf; exact ⟨_, Tryz.underlying57, rfl⟩
      | 2, hf => obtain rfl := Option.some.inj hf; exact ⟨_, Tryz.underlying3, rfl⟩
      | 3, hf => obtain rfl := Option.some.inj hf; exact ⟨_, Tryz.underlying3, rfl⟩
      | 4, hf => obtain rfl := Option.some.inj hf; exact ⟨_, Tryz.underlying3, rfl⟩
      | 5, hf => obtain rfl := Option.some.inj hf; exact ⟨_, Tryz.underlying3, rfl⟩
      | 6, hf => obtain rfl := Option.some.inj hf; exact ⟨_, Tryz.underlying3, rfl⟩
      | 7, hf => obtain rfl := Option.some.inj hf; exact ⟨_, Tryz.underlying3, rfl⟩
      | 8, hf => obtain rfl := Option.some.inj hf; exact ⟨_, Tryz.underlying3, rfl⟩
      | 9, hf => obtain rfl := Option.some.inj hf; exact ⟨_, Tryz.underlying3, rfl⟩
      | j + 10, hf => simp at hf) hy
    obtain ⟨q0, e0⟩ := hq 0 (by decide)
    obtain ⟨q1, e1⟩ := hq 1 (by decide)
    obtain ⟨q2, e2⟩ := hq 2 (by decide)
    obtain ⟨q3, e3⟩ := hq 3 (by decide)
    obtain ⟨q4, e4⟩ := hq 4 (by decide)
    obtain ⟨q5, e5⟩ := hq 5 (by decide)
    obtain ⟨q6, e6⟩ := hq 6 (by decide)
    obtain ⟨q7, e7⟩ := hq 7 (by decide)
    obtain ⟨q8, e8⟩ := hq 8 (by decide)
    obtain ⟨q9, e9⟩ := hq 9 (by decide)
    refine ⟨⟨q0, q1, q2, q3, q4, q5, q6, q7, q8, q9⟩, fun k hk => ?_⟩
    match k, hk with
    | 0, _ => exact e0
    | 1, _ => exact e1
    | 2, _ => exact e2
    | 3, _ => exact e3
    | 4, _ => exact e4
    | 5, _ => exact e5
    | 6, _ => exact e6
    | 7, _ => exact e7
    | 8, _ => exact e8
    | 9, _ => exact e9
    | k + 10, h => exact absurd h (by omega)
  have hce : Tryz.prog.cellsOf 59 = 10 := by kernel_rfl
  have cell : ∀ a, oa = some a → ∀ i, i < L.length → ∀ k, k < 10 → W.cell? ((a.add (i * 10)).add k) = some (.int .i64 (fld (L.getD i hol0) k)) := fun a ha i hi k hk => by
    obtain ⟨cs, g1, g2⟩ := h2 a ha i hi
    rw [hce] at g1
    exact cells_of g1 k _ (g2 k hk)
  refine ⟨L, oa, cap, rfl, h1, fun a ha => ⟨fun h0 => ?_, cell a ha⟩⟩
  have := World.block_lt_of_cell? _ _ (cell a ha 0 h0 0 (by decide))
  rwa [addr_block, addr_block] at this
set_option maxRecDepth 100000 in
theorem open_hours {H : Type} {enc : TypeId × Value → H} {W : World} {b0 : Nat} {r : Reach} {v : Value} {d : DataW H} {p : List MemPlace} (hv : Value.okWide Tryz.prog W r b0 26 v) (h : DataW.Trod enc Tryz.prog W 0 (fun _ => true) true 26 v d p) :
    ∃ (s : Nat → Value) (vh : Value) (X : Hrs), v = hoursV s vh ∧ HrsR W.heap.size W s vh X := by
  obtain ⟨⟨l⟩, rfl, hsz⟩ := okWide_struct Tryz.underlying26 hv
  obtain ⟨fuel, hf⟩ := h
  simp only [Value.cells] at hf
  obtain ⟨xs, n, _, hx, hl, hlen, hr⟩ := DataW.trod_struct Tryz.underlying26 hf
  have hce : Tryz.prog.cellsOf 26 = 8 := by kernel_rfl
  rw [hce] at hl
  have hxl : xs.length = 2 := hlen
  match l, hl, xs, hxl with
  | [u0, u1, u2, u3, u4, u5, u6, u7], _, [y0, y1], _ =>
    have e0 := hr 0 _ rfl
    have e1 := hr 1 _ rfl
    have k0 : Tryz.prog.cellsOf 23 = 7 := by kernel_rfl
    have k1 : Tryz.prog.cellsOf 24 = 1 := by kernel_rfl
    have k2 : Tryz.prog.cellsOf 22 = 1 := by kernel_rfl
    have t0 : DataW.trod enc Tryz.prog W 0 (fun _ => true) true n 23 [u0, u1, u2, u3, u4, u5, u6] = some y0 := by
      simpa [k0] using e0
    have t1 : DataW.trod enc Tryz.prog W 0 (fun _ => true) true n 24 [u7] = some y1 := by
      simpa [k1] using e1
    obtain ⟨zs, m, _, _, _, hzl, hz⟩ := DataW.trod_array Tryz.underlying23 t0
    rw [k2] at hz
    have w : ∀ (k : Nat) (u : Value), k < 7 → ([u0, u1, u2, u3, u4, u5, u6].drop (k * 1)).take 1 = [u] → ∃ L, VSp W.heap.size W u L := fun k u hk he => by
      have h2 := hz k hk
      rw [he, List.getElem?_eq_getElem (by omega)] at h2
      exact open_vsp h2
    obtain ⟨L0, r0⟩ := w 0 u0 (by decide) rfl
    obtain ⟨L1, r1⟩ := w 1 u1 (by decide) rfl
    obtain ⟨L2, r2⟩ := w 2 u2 (by decide) rfl
    obtain ⟨L3, r3⟩ := w 3 u3 (by decide) rfl
    obtain ⟨L4, r4⟩ := w 4 u4 (by decide) rfl
    obtain ⟨L5, r5⟩ := w 5 u5 (by decide) rfl
    obtain ⟨L6, r6⟩ := w 6 u6 (by decide) rfl
    obtain ⟨LH, rh⟩ := open_vho t1
    exact ⟨fun k => [u0, u1, u2, u3, u4, u5, u6].getD k (.slice none 0 0), u7, ⟨fun k => [L0, L1, L2, L3, L4, L5, L6].getD k [], LH⟩, rfl, ⟨seven r0 r1 r2 r3 r4 r5 r6, rh⟩⟩
end Go.Proofs.YtbgcccfgcdkmdaaGreatDoor
