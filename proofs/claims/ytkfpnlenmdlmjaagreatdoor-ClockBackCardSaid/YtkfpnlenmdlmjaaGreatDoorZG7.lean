/- Plain mathematics of times: months behind a date, periods. Times, their days and clocks: the program's. What the parts answer, each kind by itself; plain: a stamp's text. -/
import Derived.Test.YtkfpnlenmdlmjaaGreatDoorZG5
import Derived.Test.YtkfpnlenmdlmjaaGreatDoorZG6
import Derived.Test.YtkfpnlenmdlmjaaGreatDoorZPrsC
import Derived.Test.YtkfpnlenmdlmjaaGreatDoorZPrsE
namespace Dm
theorem greg12 (y : Int) : months 1 y = 12 := by simp [months]
theorem greg_len (y m : Int) (h1 : 1 ≤ m) (h2 : m ≤ 12) : 28 ≤ length 1 y m ∧ length 1 y m ≤ 31 := by
  have hmm : m = 1 ∨ m = 2 ∨ m = 3 ∨ m = 4 ∨ m = 5 ∨ m = 6 ∨ m = 7 ∨ m = 8 ∨ m = 9 ∨ m = 10 ∨ m = 11 ∨ m = 12 := by omega
  unfold length roman
  rcases hmm with rfl | rfl | rfl | rfl | rfl | rfl | rfl | rfl | rfl | rfl | rfl | rfl <;> simp <;> (try split) <;> omega
/-- The day of a month, or its last one. -/
def clipD (y m d : Int) : Int := if d ≤ length 1 y m then d else length 1 y m
theorem clipD_bd (y m d : Int) (h1 : 1 ≤ m) (h2 : m ≤ 12) (hd : 1 ≤ d) : 1 ≤ clipD y m d ∧ clipD y m d ≤ length 1 y m ∧ clipD y m d ≤ d := by
  have := greg_len y m h1 h2
  unfold clipD; split <;> omega
theorem clip_valid {y m d : Int} (hy1 : -20000 ≤ y) (hy2 : y ≤ 20000) (h1 : 1 ≤ m) (h2 : m ≤ 12) (hd : 1 ≤ d) : Valid 1 y m (clipD y m d) := by
  have h := clipD_bd y m d h1 h2 hd
  exact ⟨hy1, hy2, h1, by rw [greg12]; exact h2, h.1, h.2.1⟩
/-- The day so many months behind a date's. -/
def monY (y m k : Int) : Int := (12 * y + m - 1 + k) / 12
def monM (y m k : Int) : Int := (12 * y + m - 1 + k) % 12 + 1
def monDay (y m d k : Int) : Int := dayOf 1 (monY y m k) (monM y m k) (clipD (monY y m k) (monM y m k) d)
theorem mon_bd (y m k : Int) : 1 ≤ monM y m k ∧ monM y m k ≤ 12 ∧ 12 * monY y m k + monM y m k = 12 * y + m + k := by unfold monM monY; omega
theorem mon_valid {y m d k : Int} (h1 : -20000 ≤ monY y m k) (h2 : monY y m k ≤ 20000) (hd : 1 ≤ d) : Valid 1 (monY y m k) (monM y m k) (clipD (monY y m k) (monM y m k) d) := by
  have := mon_bd y m k
  exact clip_valid h1 h2 this.1 this.2.1 hd
end Dm
namespace Go.Proofs.YtkfpnlenmdlmjaaGreatDoor
open Go.RowKit
def locE (t : Int) : Int := if -345600000000 ≤ t ∧ t ≤ 345600086399 then 0 else 4
def locD (t : Int) : Int := if -345600000000 ≤ t ∧ t ≤ 345600086399 then t / 86400 else 0
def locS (t : Int) : Int := if -345600000000 ≤ t ∧ t ≤ 345600086399 then t % 86400 else 0
theorem loc_in {t : Int} (h1 : -345600000000 ≤ t) (h2 : t ≤ 345600086399) : locE t = 0 ∧ locD t = t / 86400 ∧ locS t = t % 86400 := ⟨if_pos ⟨h1, h2⟩, if_pos ⟨h1, h2⟩, if_pos ⟨h1, h2⟩⟩
theorem loc_out {t : Int} (h : t < -345600000000 ∨ 345600086399 < t) : locE t = 4 ∧ locD t = 0 ∧ locS t = 0 := ⟨if_neg (by omega), if_neg (by omega), if_neg (by omega)⟩
theorem loc_ways (t : Int) : (t < -345600000000 ∨ 345600086399 < t) ∨ (-345600000000 ≤ t ∧ t ≤ 345600086399) := by omega
theorem day_of_loc {t : Int} (h1 : -345600000000 ≤ t) (h2 : t ≤ 345600086399) : -4000000 ≤ t / 86400 ∧ t / 86400 ≤ 4000000 := by omega
set_option maxRecDepth 100000 in
set_option maxHeartbeats 1000000 in
theorem clkThere_any (t : Int) (w : World) : Calls Tryz.prog 101 #[.int .i64 t] w fun e w' => e = .returned (.bool (decide (-345600000000 ≤ t) && decide (t ≤ 345600086399))) ∧ w = w' := by
  go_enter Tryz.func101, Tryz.ntmps101
  go_wp2
  all_goals go_ret
  all_goals exact ⟨retB (by simp_all <;> omega), rfl⟩
set_option maxRecDepth 100000 in
set_option maxHeartbeats 1000000 in
theorem split_all (t : Int) (w : World) : Calls Tryz.prog 92 #[.int .i64 t] w fun e w' => e = .returned (.tuple #[.int .i64 (locD t), .int .i64 (locS t), errV (locE t)]) ∧ w = w' := by
  rcases loc_ways t with h | ⟨h1, h2⟩
  · rw [(loc_out h).1, (loc_out h).2.1, (loc_out h).2.2]
    have hb : (decide (-345600000000 ≤ t) && decide (t ≤ 345600086399)) = false := by simp; omega
    clear h
    go_enter Tryz.func92, Tryz.ntmps92
    go_wp2_with fail
    refine (clkThere_any _ _).mono ?_; rintro e w' ⟨rfl, rfl⟩
    rw [hb]
    go_wp2_with fail
    exact bodyPost_ret (v := .tuple #[.int .i64 0, .int .i64 0, errV 4]) (by simp [results, Tryz.results92, go_sem, errV]) rfl ⟨rfl, rfl⟩
  · rw [(loc_in h1 h2).1, (loc_in h1 h2).2.1, (loc_in h1 h2).2.2]
    have hb : (decide (-345600000000 ≤ t) && decide (t ≤ 345600086399)) = true := by simp; omega
    have h3 := tmod_fact t 86400 (by omega)
    have e2 := sub_emod_ediv t 86400 (by omega)
    have ht : (t - t % 86400).tmod 86400 = 0 := by rw [show t - t % 86400 = 86400 * (t / 86400) by omega]; exact Int.mul_tmod_right _ _
    have hf := tdiv_pos (t - t % 86400) 86400 (by omega) (by omega)
    rw [e2] at hf
    clear e2 ht
    by_cases hn : t.tmod 86400 < 0
    · have hm := tmod_neg t 86400 (by omega) hn
      have HF := Lib.hid (And.intro hf hm); clear hf hm
      go_enter Tryz.func92, Tryz.ntmps92
      go_wp2_with fail
      refine (clkThere_any _ _).mono ?_; rintro e w' ⟨rfl, rfl⟩
      rw [hb]
      go_wp2_with fail
      exact bodyPost_ret (v := .tuple #[.int .i64 (t / 86400), .int .i64 (t % 86400), errV 0]) (by simp [results, Tryz.results92, go_sem, errV, HF.out.2, HF.out.1]) rfl ⟨rfl, rfl⟩
    · have hm := tmod_pos t 86400 (by omega) (by omega)
      have HF := Lib.hid (And.intro hf hm); clear hf hm
      go_enter Tryz.func92, Tryz.ntmps92
      go_wp2_with fail
      refine (clkThere_any _ _).mono ?_; rintro e w' ⟨rfl, rfl⟩
      rw [hb]
      go_wp2_with fail
      exact bodyPost_ret (v := .tuple #[.int .i64 (t / 86400), .int .i64 (t % 86400), errV 0]) (by simp [results, Tryz.results92, go_sem, errV, HF.out.2, HF.out.1]) rfl ⟨rfl, rfl⟩
/-- The time of a day's second, and what is wrong with it. -/
def joinE (d s : Int) : Int := if s < 0 ∨ 86400 ≤ s then 3 else if -4000000 ≤ d ∧ d ≤ 4000000 then 0 else 4
def joinR (d s : Int) : Int := if joinE d s = 0 then d * 86400 + s else 0
theorem join_sec {d s : Int} (h : s < 0 ∨ 86400 ≤ s) : joinE d s = 3 ∧ joinR d s = 0 := by
  have e : joinE d s = 3 := if_pos h
  exact ⟨e, by unfold joinR; rw [e, if_neg (by decide)]⟩
theorem join_day {d s : Int} (h1 : 0 ≤ s) (h2 : s < 86400) (h : d < -4000000 ∨ 4000000 < d) : joinE d s = 4 ∧ joinR d s = 0 := by
  have e : joinE d s = 4 := (if_neg (by omega)).trans (if_neg (by omega))
  exact ⟨e, by unfold joinR; rw [e, if_neg (by decide)]⟩
theorem join_ok {d s : Int} (h1 : 0 ≤ s) (h2 : s < 86400) (h3 : -4000000 ≤ d) (h4 : d ≤ 4000000) : joinE d s = 0 ∧ joinR d s = d * 86400 + s := by
  have e : joinE d s = 0 := (if_neg (by omega)).trans (if_pos ⟨h3, h4⟩)
  exact ⟨e, if_pos e⟩
set_option maxRecDepth 100000 in
set_option maxHeartbeats 1000000 in
theorem join_all (d s : Int) (w : World) : Calls Tryz.prog 46 #[.int .i64 d, .int .i64 s] w fun e w' => e = .returned (.tuple #[.int .i64 (joinR d s), errV (joinE d s)]) ∧ w = w' := by
  rcases (show s < 0 ∨ 86400 ≤ s ∨ (0 ≤ s ∧ s < 86400 ∧ d < -4000000) ∨ (0 ≤ s ∧ s < 86400 ∧ 4000000 < d) ∨ (0 ≤ s ∧ s < 86400 ∧ -4000000 ≤ d ∧ d ≤ 4000000) by omega) with h | h | ⟨h1, h2, h⟩ | ⟨h1, h2, h⟩ | ⟨h1, h2, h3, h4⟩
  · rw [(join_sec (.inl h)).1, (join_sec (.inl h)).2]
    go_enter Tryz.func46, Tryz.ntmps46
    go_wp2
    go_ret2
    exact ⟨rfl, rfl⟩
  · rw [(join_sec (.inr h)).1, (join_sec (.inr h)).2]
    have h' : ¬ s < 0 := by omega
    go_enter Tryz.func46, Tryz.ntmps46
    go_wp2
    go_ret2
    exact ⟨rfl, rfl⟩
  · rw [(join_day h1 h2 (.inl h)).1, (join_day h1 h2 (.inl h)).2]
    go_enter Tryz.func46, Tryz.ntmps46
    go_wp2
    go_ret2
    exact ⟨rfl, rfl⟩
  · rw [(join_day h1 h2 (.inr h)).1, (join_day h1 h2 (.inr h)).2]
    have h' : ¬ d < -4000000 := by omega
    go_enter Tryz.func46, Tryz.ntmps46
    go_wp2
    go_ret2
    exact ⟨rfl, rfl⟩
  · rw [(join_ok h1 h2 h3 h4).1, (join_ok h1 h2 h3 h4).2]
    go_enter Tryz.func46, Tryz.ntmps46
    go_wp2
    go_ret2
    exact ⟨rfl, rfl⟩
theorem set_at {w : World} {B o : Nat} {v : Value} (h : ∃ x, w.cell? ⟨B, o, none⟩ = some x) : (w.setCell ⟨B, o, none⟩ v).cell? ⟨B, o, none⟩ = some v := by
  obtain ⟨x, hx⟩ := h
  exact World.cell?_setCell_same w _ v hx
theorem set_off {w : World} {B B' o o' : Nat} {v : Value} (h : B ≠ B' ∨ o ≠ o') : (w.setCell ⟨B, o, none⟩ v).cell? ⟨B', o', none⟩ = w.cell? ⟨B', o', none⟩ := World.cell?_setCell_other w _ _ v (by intro e; injection e; omega)
theorem set_ex {w : World} {B B' o o' : Nat} {v : Value} (h : ∃ x, w.cell? ⟨B', o', none⟩ = some x) : ∃ x, (w.setCell ⟨B, o, none⟩ v).cell? ⟨B', o', none⟩ = some x := by
  by_cases e : B = B' ∧ o = o'
  · obtain ⟨rfl, rfl⟩ := e; exact ⟨v, set_at h⟩
  · rw [set_off (by omega)]; exact h
theorem four_set {w : World} {B : Nat} {v0 v1 v2 v3 : Value} (e : ∀ i, i < 4 → ∃ x, w.cell? ⟨B, i, none⟩ = some x) :
    ((((w.setCell ⟨B, 0, none⟩ v0).setCell ⟨B, 1, none⟩ v1).setCell ⟨B, 2, none⟩ v2).setCell ⟨B, 3, none⟩ v3).cell? ⟨B, 0, none⟩ = some v0 ∧
    ((((w.setCell ⟨B, 0, none⟩ v0).setCell ⟨B, 1, none⟩ v1).setCell ⟨B, 2, none⟩ v2).setCell ⟨B, 3, none⟩ v3).cell? ⟨B, 1, none⟩ = some v1 ∧
    ((((w.setCell ⟨B, 0, none⟩ v0).setCell ⟨B, 1, none⟩ v1).setCell ⟨B, 2, none⟩ v2).setCell ⟨B, 3, none⟩ v3).cell? ⟨B, 2, none⟩ = some v2 ∧
    ((((w.setCell ⟨B, 0, none⟩ v0).setCell ⟨B, 1, none⟩ v1).setCell ⟨B, 2, none⟩ v2).setCell ⟨B, 3, none⟩ v3).cell? ⟨B, 3, none⟩ = some v3 ∧
    (∀ i, i < 4 → ∃ x, ((((w.setCell ⟨B, 0, none⟩ v0).setCell ⟨B, 1, none⟩ v1).setCell ⟨B, 2, none⟩ v2).setCell ⟨B, 3, none⟩ v3).cell? ⟨B, i, none⟩ = some x) ∧
    ∀ B' o, B ≠ B' → ((((w.setCell ⟨B, 0, none⟩ v0).setCell ⟨B, 1, none⟩ v1).setCell ⟨B, 2, none⟩ v2).setCell ⟨B, 3, none⟩ v3).cell? ⟨B', o, none⟩ = w.cell? ⟨B', o, none⟩ := by
  refine ⟨?_, ?_, ?_, ?_, fun i hi => set_ex (set_ex (set_ex (set_ex (e i hi)))), fun B' o h => ?_⟩
  · exact (set_off (.inr (by decide))).trans ((set_off (.inr (by decide))).trans ((set_off (.inr (by decide))).trans (set_at (e 0 (by decide)))))
  · exact (set_off (.inr (by decide))).trans ((set_off (.inr (by decide))).trans (set_at (set_ex (e 1 (by decide)))))
  · exact (set_off (.inr (by decide))).trans (set_at (set_ex (set_ex (e 2 (by decide)))))
  · exact set_at (set_ex (set_ex (set_ex (e 3 (by decide)))))
  · exact (set_off (.inl h)).trans ((set_off (.inl h)).trans ((set_off (.inl h)).trans (set_off (.inl h))))
theorem three_set {w : World} {B : Nat} {v0 v1 v2 : Value} (e : ∀ i, i < 3 → ∃ x, w.cell? ⟨B, i, none⟩ = some x) :
    (((w.setCell ⟨B, 0, none⟩ v0).setCell ⟨B, 1, none⟩ v1).setCell ⟨B, 2, none⟩ v2).cell? ⟨B, 0, none⟩ = some v0 ∧
    (((w.setCell ⟨B, 0, none⟩ v0).setCell ⟨B, 1, none⟩ v1).setCell ⟨B, 2, none⟩ v2).cell? ⟨B, 1, none⟩ = some v1 ∧
    (((w.setCell ⟨B, 0, none⟩ v0).setCell ⟨B, 1, none⟩ v1).setCell ⟨B, 2, none⟩ v2).cell? ⟨B, 2, none⟩ = some v2 ∧
    ∀ B' o, B ≠ B' → (((w.setCell ⟨B, 0, none⟩ v0).setCell ⟨B, 1, none⟩ v1).setCell ⟨B, 2, none⟩ v2).cell? ⟨B', o, none⟩ = w.cell? ⟨B', o, none⟩ := by
  refine ⟨?_, ?_, ?_, fun B' o h => ?_⟩
  · exact (set_off (.inr (by decide))).trans ((set_off (.inr (by decide))).trans (set_at (e 0 (by decide))))
  · exact (set_off (.inr (by decide))).trans (set_at (set_ex (e 1 (by decide))))
  · exact set_at (set_ex (set_ex (e 2 (by decide))))
  · exact (set_off (.inl h)).trans ((set_off (.inl h)).trans (set_off (.inl h)))
def clkV (h m s : Int) : Value := .agg #[.int .i64 h, .int .i64 m, .int .i64 s]
/-- The date and the clock of a time. -/
def TellR (t a y m d h mi s : Int) : Prop := ((t < -345600000000 ∨ 345600086399 < t) ∧ a = 0 ∧ y = 0 ∧ m = 0 ∧ d = 0 ∧ h = 0 ∧ mi = 0 ∧ s = 0) ∨ (-345600000000 ≤ t ∧ t ≤ 345600086399 ∧ OfR 1 (t / 86400) a y m d ∧ h = t % 86400 / 3600 ∧ mi = t % 86400 / 60 % 60 ∧ s = t % 86400 % 60)
theorem TellR.one {t a y m d h mi s a' y' m' d' h' mi' s' : Int} (g : TellR t a y m d h mi s) (g' : TellR t a' y' m' d' h' mi' s') : a = a' ∧ y = y' ∧ m = m' ∧ d = d' ∧ h = h' ∧ mi = mi' ∧ s = s' := by
  rcases g with ⟨e, rfl, rfl, rfl, rfl, rfl, rfl, rfl⟩ | ⟨e1, e2, ho, rfl, rfl, rfl⟩ <;> rcases g' with ⟨e', rfl, rfl, rfl, rfl, rfl, rfl, rfl⟩ | ⟨e1', e2', ho', rfl, rfl, rfl⟩
  · exact ⟨rfl, rfl, rfl, rfl, rfl, rfl, rfl⟩
  · omega
  · omega
  · obtain ⟨rfl, rfl, rfl, rfl⟩ := ho.one ho'
    exact ⟨rfl, rfl, rfl, rfl, rfl, rfl, rfl⟩
def TellPost (t : Int) (err : Value) (w : World) (e : Ending) (w' : World) : Prop := ∃ a y m d h mi s, e = .returned (.tuple #[dateV a y m d, clkV h mi s, err]) ∧ TellR t a y m d h mi s ∧ Below w.heap.size w w'
set_option maxRecDepth 100000 in
set_option maxHeartbeats 2000000 in
theorem ctell_all (t : Int) (w : World) (hr : RomanT w) : Calls Tryz.prog 54 #[.int .i64 t] w (TellPost t (errV (locE t)) w) := by
  have HR := Lib.hid hr; clear hr
  rcases loc_ways t with h | ⟨h1, h2⟩
  · have HE := Lib.hid (loc_out h)
    have HH := Lib.hid h; clear h
    go_enter Tryz.func54, Tryz.ntmps54
    go_wp2_with fail
    refine (split_all _ _).mono ?_; rintro e w' ⟨rfl, rfl⟩
    rw [HE.out.1, HE.out.2.1, HE.out.2.2, errV_hit (show (4 : Int) ≠ 0 by decide)]
    go_wp2_with fail
    go_region
    all_goals (try go_wp2)
    all_goals refine bodyPost_ret (v := .tuple #[dateV 0 0 0 0, clkV 0 0 0, errV 4]) (by simp [results, Tryz.results54, go_sem, dateV, clkV, errV]) rfl ⟨0, 0, 0, 0, 0, 0, 0, by rw [HE.out.1], .inl ⟨HH.out, rfl, rfl, rfl, rfl, rfl, rfl, rfl⟩, ?_⟩
    all_goals repeat (first | with_reducible exact Below.refl _ _ | with_reducible refine Below.drew ?_ | (with_reducible refine Below.alloc ?_ (by first | omega | (simp <;> omega)) _) | (with_reducible refine Below.setCell ?_ (by first | omega | (simp <;> omega)) _))
  · have HE := Lib.hid (loc_in h1 h2)
    have hdd := day_of_loc h1 h2
    have HO := Lib.hid (ofE_ok (c := 1) (n := t / 86400) (by omega) (by omega) hdd.1 hdd.2)
    have hS : 0 ≤ t % 86400 ∧ t % 86400 < 86400 := by omega
    obtain ⟨D, hD0⟩ : ∃ D, t / 86400 = D := ⟨_, rfl⟩
    obtain ⟨T, hT0⟩ : ∃ T, t % 86400 = T := ⟨_, rfl⟩
    rw [hT0] at hS
    rw [hD0] at hdd
    have HD := Lib.hid (And.intro hD0 hT0); clear hD0 hT0
    have HH := Lib.hid (And.intro h1 h2); clear h1 h2
    go_enter Tryz.func54, Tryz.ntmps54
    go_wp2_with fail
    refine (split_all _ _).mono ?_; rintro e w' ⟨rfl, rfl⟩
    rw [HE.out.1, HE.out.2.1, HE.out.2.2, errV_nil, HD.out.1, HD.out.2]
    go_wp2_with fail
    refine (dof_all _ _ _ (by repeat (first | exact HR.out | (with_reducible refine RomanT.alloc ?_ _)))).mono ?_; rintro en w1 ⟨a, y, m, d, rfl, hR, hb1⟩
    rw [show ofE 1 D = 0 by rw [← HD.out.1]; exact HO.out, errV_nil]
    unfold dateV
    have HRR := Lib.hid hR; clear hR
    have hz1 := hb1.size
    simp only [World.size_alloc] at hz1
    obtain ⟨q1, p1⟩ := carry hb1 w.heap.size (by simp; omega)
    obtain ⟨q2, p2⟩ := carry hb1 (w.heap.size + 1) (by simp)
    have hs1 : w.heap.size < w1.heap.size := by omega
    have hs2 : w.heap.size + 1 < w1.heap.size := by omega
    have HB1 := Lib.hid (offA (offA hb1)); clear hb1
    go_wp2_with fail
    have e1 : ∀ i, i < 4 → ∃ x, w1.cell? ⟨w.heap.size, i, none⟩ = some x := fun i hi => by
      rw [q1]
      match i, hi with
      | 0, _ => exact ⟨.int .i64 0, by simp [go_sem]⟩
      | 1, _ => exact ⟨.int .i64 0, by simp [go_sem]⟩
      | 2, _ => exact ⟨.int .i64 0, by simp [go_sem]⟩
      | 3, _ => exact ⟨.int .i64 0, by simp [go_sem]⟩
    have e2 : ∀ i, i < 3 → ∃ x, w1.cell? ⟨w.heap.size + 1, i, none⟩ = some x := fun i hi => by
      rw [q2]
      match i, hi with
      | 0, _ => exact ⟨.int .i64 0, by simp [go_sem]⟩
      | 1, _ => exact ⟨.int .i64 0, by simp [go_sem]⟩
      | 2, _ => exact ⟨.int .i64 0, by simp [go_sem]⟩
    have hBF : Below w.heap.size w w1 := HB1.out
    obtain ⟨_, _, _, _, x1, o1⟩ := four_set (v0 := .int .i64 a) (v1 := .int .i64 y) (v2 := .int .i64 m) (v3 := .int .i64 d) e1
    obtain ⟨c0, c1, c2, c3, _, o2⟩ := four_set (v0 := .int .i64 a) (v1 := .int .i64 y) (v2 := .int .i64 m) (v3 := .int .i64 d) x1
    obtain ⟨c4, c5, c6, o3⟩ := three_set (v0 := .int .i64 (T / 3600)) (v1 := .int .i64 (T / 60 % 60)) (v2 := .int .i64 (T % 60)) (fun i hi => by
      obtain ⟨x, hx⟩ := e2 i hi
      exact ⟨x, (o2 _ _ (by omega)).trans ((o1 _ _ (by omega)).trans hx)⟩)
    replace c0 := (o3 w.heap.size 0 (by omega)).trans c0
    replace c1 := (o3 w.heap.size 1 (by omega)).trans c1
    replace c2 := (o3 w.heap.size 2 (by omega)).trans c2
    replace c3 := (o3 w.heap.size 3 (by omega)).trans c3
    clear x1 o1 o2 o3 e1 e2 q1 q2 p1 p2
    generalize hF : World.setCell _ _ _ = F at c0 c1 c2 c3 c4 c5 c6 ⊢
    have hB : Below w.heap.size w F := by
      rw [← hF]
      repeat (first | with_reducible exact HB1.out | (with_reducible refine Below.setCell ?_ (by first | omega | (simp <;> omega)) _))
    clear hF
    refine bodyPost_ret (v := .tuple #[dateV a y m d, clkV (T / 3600) (T / 60 % 60) (T % 60), .nilIface]) (by simp [results, Tryz.results54, go_sem, dateV, clkV, c0, c1, c2, c3, c4, c5, c6]) rfl ⟨a, y, m, d, T / 3600, T / 60 % 60, T % 60, by rw [HE.out.1]; rfl, .inr ⟨HH.out.1, HH.out.2, by rw [HD.out.1]; exact HRR.out, by rw [HD.out.2], by rw [HD.out.2], by rw [HD.out.2]⟩, hB⟩
end Go.Proofs.YtkfpnlenmdlmjaaGreatDoor
namespace Go.Proofs.YtkfpnlenmdlmjaaGreatDoor
open Go.RowKit Scm
theorem ErrIs.nil {B : Nat} {x pl : Int} {v : Value} {w : World} (h : ErrIs B x pl v w) (hx : x = 0) : v = .nilIface ∧ pl = -1 := by
  rcases h with ⟨_, h1, h2⟩ | ⟨h, _⟩ | ⟨h, _⟩
  · exact ⟨h2, h1⟩
  · exact absurd hx h
  · exact absurd hx h
theorem ErrIs.errno {B : Nat} {x pl : Int} {v : Value} {w : World} (h : ErrIs B x pl v w) (hx : x ≠ 0) (hp : pl = -1) : v = .iface 25 (.int .i64 x) := by
  rcases h with ⟨h, _⟩ | ⟨_, _, h⟩ | ⟨_, h, _⟩
  · exact absurd h hx
  · exact h
  · omega
theorem ErrIs.box {B : Nat} {x pl : Int} {v : Value} {w : World} (h : ErrIs B x pl v w) (hx : x ≠ 0) (hp : pl ≠ -1) : ∃ p : Nat, v = .iface 105 (.pointer (some ⟨p, 0, none⟩)) ∧ 0 ≤ pl ∧ AtBox B x pl (.iface 105 (.pointer (some ⟨p, 0, none⟩))) w := by
  rcases h with ⟨h, _⟩ | ⟨_, h, _⟩ | ⟨_, h, p, h1, h2⟩
  · exact absurd h hx
  · exact absurd h hp
  · exact ⟨p, h1, h, p, rfl, h2⟩
theorem DayPost.ok {b : Nat} {s : ByteArray} {P : DayP} {w w' : World} {e : Ending} (h : DayPost b s P w e w') (hx : P.err = 0) : e = .returned (.tuple #[.int .i64 P.day, .bool P.wide, .nilIface]) ∧ ScanAt b s (P.at_ : Int) w' ∧ Only b w w' := by
  obtain ⟨D, v, rfl, h1, h2, h3, h4⟩ := h
  obtain ⟨rfl, _⟩ := h2.nil hx
  exact ⟨by rw [h1 hx], h3, h4⟩
theorem DayPost.errno {b : Nat} {s : ByteArray} {P : DayP} {w w' : World} {e : Ending} (h : DayPost b s P w e w') (hx : P.err ≠ 0) (hp : P.place = -1) : ∃ D : Int, e = .returned (.tuple #[.int .i64 D, .bool P.wide, .iface 25 (.int .i64 P.err)]) ∧ ScanAt b s (P.at_ : Int) w' ∧ Only b w w' := by
  obtain ⟨D, v, rfl, h1, h2, h3, h4⟩ := h
  obtain rfl := h2.errno hx hp
  exact ⟨D, rfl, h3, h4⟩
theorem DayPost.box {b : Nat} {s : ByteArray} {P : DayP} {w w' : World} {e : Ending} (h : DayPost b s P w e w') (hx : P.err ≠ 0) (hp : P.place ≠ -1) : ∃ (D : Int) (p : Nat), e = .returned (.tuple #[.int .i64 D, .bool P.wide, .iface 105 (.pointer (some ⟨p, 0, none⟩))]) ∧ AtBox w.heap.size P.err P.place (.iface 105 (.pointer (some ⟨p, 0, none⟩))) w' ∧ ScanAt b s (P.at_ : Int) w' ∧ Only b w w' := by
  obtain ⟨D, v, rfl, h1, h2, h3, h4⟩ := h
  obtain ⟨p, rfl, _, h5⟩ := h2.box hx hp
  exact ⟨D, p, rfl, h5, h3, h4⟩
theorem CkPost.ok {b : Nat} {s : ByteArray} {P : CkP} {w w' : World} {e : Ending} (h : CkPost b s P w e w') (hx : P.err = 0) : e = .returned (.tuple #[.int .i64 P.sec, .nilIface]) ∧ ScanAt b s (P.at_ : Int) w' ∧ Only b w w' := by
  obtain ⟨K, v, rfl, h1, h2, h3, h4⟩ := h
  obtain ⟨rfl, _⟩ := h2.nil hx
  exact ⟨by rw [h1 hx], h3, h4⟩
theorem CkPost.errno {b : Nat} {s : ByteArray} {P : CkP} {w w' : World} {e : Ending} (h : CkPost b s P w e w') (hx : P.err ≠ 0) (hp : P.place = -1) : ∃ K : Int, e = .returned (.tuple #[.int .i64 K, .iface 25 (.int .i64 P.err)]) ∧ ScanAt b s (P.at_ : Int) w' ∧ Only b w w' := by
  obtain ⟨K, v, rfl, h1, h2, h3, h4⟩ := h
  obtain rfl := h2.errno hx hp
  exact ⟨K, rfl, h3, h4⟩
theorem CkPost.box {b : Nat} {s : ByteArray} {P : CkP} {w w' : World} {e : Ending} (h : CkPost b s P w e w') (hx : P.err ≠ 0) (hp : P.place ≠ -1) : ∃ (K : Int) (p : Nat), e = .returned (.tuple #[.int .i64 K, .iface 105 (.pointer (some ⟨p, 0, none⟩))]) ∧ AtBox w.heap.size P.err P.place (.iface 105 (.pointer (some ⟨p, 0, none⟩))) w' ∧ ScanAt b s (P.at_ : Int) w' ∧ Only b w w' := by
  obtain ⟨K, v, rfl, h1, h2, h3, h4⟩ := h
  obtain ⟨p, rfl, _, h5⟩ := h2.box hx hp
  exact ⟨K, p, rfl, h5, h3, h4⟩
theorem ZnPost.ok {b : Nat} {s : ByteArray} {P : ZnP} {w w' : World} {e : Ending} (h : ZnPost b s P w e w') (hx : P.err = 0) : e = .returned (.tuple #[.int .i64 P.kind, .int .i64 P.off, .nilIface]) ∧ ScanAt b s (P.at_ : Int) w' ∧ Only b w w' := by
  obtain ⟨K, O, v, rfl, h1, h2, h3, h4⟩ := h
  obtain ⟨rfl, _⟩ := h2.nil hx
  exact ⟨by rw [(h1 hx).1, (h1 hx).2], h3, h4⟩
theorem ZnPost.errno {b : Nat} {s : ByteArray} {P : ZnP} {w w' : World} {e : Ending} (h : ZnPost b s P w e w') (hx : P.err ≠ 0) (hp : P.place = -1) : ∃ K O : Int, e = .returned (.tuple #[.int .i64 K, .int .i64 O, .iface 25 (.int .i64 P.err)]) ∧ ScanAt b s (P.at_ : Int) w' ∧ Only b w w' := by
  obtain ⟨K, O, v, rfl, h1, h2, h3, h4⟩ := h
  obtain rfl := h2.errno hx hp
  exact ⟨K, O, rfl, h3, h4⟩
theorem ZnPost.box {b : Nat} {s : ByteArray} {P : ZnP} {w w' : World} {e : Ending} (h : ZnPost b s P w e w') (hx : P.err ≠ 0) (hp : P.place ≠ -1) : ∃ (K O : Int) (p : Nat), e = .returned (.tuple #[.int .i64 K, .int .i64 O, .iface 105 (.pointer (some ⟨p, 0, none⟩))]) ∧ AtBox w.heap.size P.err P.place (.iface 105 (.pointer (some ⟨p, 0, none⟩))) w' ∧ ScanAt b s (P.at_ : Int) w' ∧ Only b w w' := by
  obtain ⟨K, O, v, rfl, h1, h2, h3, h4⟩ := h
  obtain ⟨p, rfl, _, h5⟩ := h2.box hx hp
  exact ⟨K, O, p, rfl, h5, h3, h4⟩
/-- A stamp that was read. -/
structure StP where
  loc : Int
  zone : Int
  off : Int
  err : Int
  place : Int
def endP (day sec zk zo : Int) (n k : Nat) : StP :=
  if k < n then ⟨0, 0, 0, 5, k⟩
  else if joinE (if sec = 86400 then day + 1 else day) (if sec = 86400 then 0 else sec) = 0 then ⟨joinR (if sec = 86400 then day + 1 else day) (if sec = 86400 then 0 else sec), zk, zo, 0, -1⟩
  else ⟨0, 0, 0, joinE (if sec = 86400 then day + 1 else day) (if sec = 86400 then 0 else sec), -1⟩
def parC (s : ByteArray) (D : DayP) (C : CkP) : StP :=
  if C.err = 0 then
    if (zoneP s D.wide C.at_).err = 0 then endP D.day C.sec (zoneP s D.wide C.at_).kind (zoneP s D.wide C.at_).off s.size (zoneP s D.wide C.at_).at_
    else ⟨0, 0, 0, (zoneP s D.wide C.at_).err, (zoneP s D.wide C.at_).place⟩
  else ⟨0, 0, 0, C.err, C.place⟩
def parD (s : ByteArray) (D : DayP) : StP :=
  if D.err = 0 then if isB s D.at_ 84 = true then parC s D (clockP s D.wide (D.at_ + 1)) else endP D.day 0 0 0 s.size D.at_
  else ⟨0, 0, 0, D.err, D.place⟩
def parP (s : ByteArray) : StP := parD s (dayP s 0)
/-- What Parse answers. -/
def StPost2 (P : StP) (w : World) (e : Ending) (w' : World) : Prop :=
  Below w.heap.size w w' ∧ ∃ v, e = .returned (.tuple #[.agg #[.int .i64 P.loc, .int .i64 P.zone, .int .i64 P.off], v]) ∧ ErrIs w.heap.size P.err P.place v w'
end Go.Proofs.YtkfpnlenmdlmjaaGreatDoor
