/- The days of a year on which a holiday would be. -/
import Derived.Test.YtbgcccfgcdkmdaaGreatDoorWrkG
import Derived.Test.YtbgcccfgcdkmdaaGreatDoorDaysX
import Derived.Test.YtbgcccfgcdkmdaaGreatDoorDaysY
import Derived.Deep.RegionHeld3
namespace Go.Proofs.YtbgcccfgcdkmdaaGreatDoor
open Go.RowKit Wrk
theorem hE_facts {x : Hol} (h : hE x = 0) : (x.kind = 1 ∧ 1 ≤ x.cal ∧ x.cal ≤ 10) ∨ (x.kind = 2 ∧ 1 ≤ x.month ∧ x.month ≤ 12 ∧ 1 ≤ x.wday ∧ x.wday ≤ 7 ∧ -5 ≤ x.n ∧ x.n ≤ 5) ∨ (x.kind = 3 ∧ -100 ≤ x.off ∧ x.off ≤ 100) ∨ (x.kind = 4 ∧ -100 ≤ x.off ∧ x.off ≤ 100) := by
  unfold hE at h
  split at h
  · cases h
  · rename_i g
    split at h
    · rename_i g1
      split at h
      · cases h
      · left; omega
    · split at h
      · split at h
        · cases h
        · right; left; omega
      · split at h
        · cases h
        · right; right; omega
def OnPost (x : Hol) (y : Int) (w : World) (e : Ending) (w' : World) : Prop := ∃ v l, e = .returned v ∧ IntL w' w.heap.size v l ∧ l.length ≤ 3 ∧ (∀ t, t ∈ l ↔ OnD x y t) ∧ Below w.heap.size w w'
set_option maxRecDepth 100000 in
set_option maxHeartbeats 16000000 in
theorem on_date (x : Hol) (y : Int) (w : World) (hr : RomanT w) (hk : x.kind = 1) (c1 : 1 ≤ x.cal) (c2 : x.cal ≤ 10) (h1 : 1 ≤ y) (h2 : y ≤ 9999) :
    Calls Tryz.prog 58 #[holV x, .int .i64 y] w (OnPost x y w) := by
  have HC := Lib.hid fun w0 h => dated_any x y w0 h hk c1 c2 h1 h2
  have C1 := Lib.hid fun w0 h => first_year y w0 h h1 (by omega)
  have hy : IntKind.i64.wrap (y + 1) = y + 1 := IntWalk.i64_in _ (by omega)
  have C2 : Hid (∀ w0, RomanT w0 → Calls Tryz.prog 72 #[.int .i64 (IntKind.i64.wrap (y + 1))] w0 fun e w' => e = .returned (.int .i64 (y1 (y + 1))) ∧ Below w0.heap.size w0 w') := Lib.hid fun w0 h => by rw [hy]; exact first_year (y + 1) w0 h (by omega) (by omega)
  obtain ⟨a, ha⟩ : ∃ a, y1 y = a := ⟨_, rfl⟩
  obtain ⟨b, hb⟩ : ∃ b, y1 (y + 1) = b := ⟨_, rfl⟩
  rw [ha] at C1
  rw [hb] at C2
  simp only [ha, hb] at HC
  clear ha hb hy
  unfold OnPost
  obtain ⟨P, hP⟩ : ∃ P : Int → Prop, ∀ t, OnD x y t ↔ P t := ⟨_, fun t => Iff.rfl⟩
  simp only [hP] at HC ⊢
  obtain ⟨ki, ca, mo, dy, nn, wd, of, lo, hi, mvs⟩ := x
  simp only at hk
  subst hk
  try unfold holV at HC
  unfold holV
  simp only at HC ⊢
  obtain ⟨wB, hwB⟩ : ∃ W, w.alloc (.cells #[.int .i64 1, .int .i64 ca, .int .i64 mo, .int .i64 dy, .int .i64 nn, .int .i64 wd, .int .i64 of, .int .i64 lo, .int .i64 hi, .int .i64 mvs] 59) = W := ⟨_, rfl⟩
  have hB : Below w.heap.size w wB := by rw [← hwB]; exact (Below.refl _ _).alloc (Nat.le_refl _) _
  have HB := Lib.hid hB
  have HRB := Lib.hid (RomanT.call hr hB)
  have HLT := Lib.hid (show w.heap.size < wB.heap.size by rw [← hwB]; simp)
  have hs : wB.cell? ⟨w.heap.size, 0, none⟩ = some (.int .i64 1) ∧ wB.cell? ⟨w.heap.size, 1, none⟩ = some (.int .i64 ca) ∧ wB.cell? ⟨w.heap.size, 2, none⟩ = some (.int .i64 mo) ∧ wB.cell? ⟨w.heap.size, 3, none⟩ = some (.int .i64 dy) ∧ wB.cell? ⟨w.heap.size, 4, none⟩ = some (.int .i64 nn) ∧ wB.cell? ⟨w.heap.size, 5, none⟩ = some (.int .i64 wd) ∧ wB.cell? ⟨w.heap.size, 6, none⟩ = some (.int .i64 of) ∧ wB.cell? ⟨w.heap.size, 7, none⟩ = some (.int .i64 lo) ∧ wB.cell? ⟨w.heap.size, 8, none⟩ = some (.int .i64 hi) ∧ wB.cell? ⟨w.heap.size, 9, none⟩ = some (.int .i64 mvs) := by rw [← hwB]; simp
  have HS : Hid (∀ w' : World, Below wB.heap.size wB w' → (w'.cell? ⟨w.heap.size, 0, none⟩ = some (.int .i64 1) ∧ w'.cell? ⟨w.heap.size, 1, none⟩ = some (.int .i64 ca) ∧ w'.cell? ⟨w.heap.size, 2, none⟩ = some (.int .i64 mo) ∧ w'.cell? ⟨w.heap.size, 3, none⟩ = some (.int .i64 dy) ∧ w'.cell? ⟨w.heap.size, 4, none⟩ = some (.int .i64 nn) ∧ w'.cell? ⟨w.heap.size, 5, none⟩ = some (.int .i64 wd) ∧ w'.cell? ⟨w.heap.size, 6, none⟩ = some (.int .i64 of) ∧ w'.cell? ⟨w.heap.size, 7, none⟩ = some (.int .i64 lo) ∧ w'.cell? ⟨w.heap.size, 8, none⟩ = some (.int .i64 hi) ∧ w'.cell? ⟨w.heap.size, 9, none⟩ = some (.int .i64 mvs))) := Lib.hid fun w' hb => by
    obtain ⟨s0, s1, s2, s3, s4, s5, s6, s7, s8, s9⟩ := hs
    exact ⟨(hb.cell (p := ⟨w.heap.size, 0, none⟩) HLT.out).trans s0, (hb.cell (p := ⟨w.heap.size, 1, none⟩) HLT.out).trans s1, (hb.cell (p := ⟨w.heap.size, 2, none⟩) HLT.out).trans s2, (hb.cell (p := ⟨w.heap.size, 3, none⟩) HLT.out).trans s3, (hb.cell (p := ⟨w.heap.size, 4, none⟩) HLT.out).trans s4, (hb.cell (p := ⟨w.heap.size, 5, none⟩) HLT.out).trans s5, (hb.cell (p := ⟨w.heap.size, 6, none⟩) HLT.out).trans s6, (hb.cell (p := ⟨w.heap.size, 7, none⟩) HLT.out).trans s7, (hb.cell (p := ⟨w.heap.size, 8, none⟩) HLT.out).trans s8, (hb.cell (p := ⟨w.heap.size, 9, none⟩) HLT.out).trans s9⟩
  obtain ⟨s0, s1, s2, s3, s4, s5, s6, s7, s8, s9⟩ := hs
  clear hB hr hP
  go_enter Tryz.func58, Tryz.ntmps58
  go_upto_region 3 with fail
  clear hwB
  have HX := Lib.hid (Below.drew (Below.refl wB.heap.size wB))
  clear s0 s1 s2 s3 s4 s5 s6 s7 s8 s9
  go_region_held3 (fun w' => w'.cell? ⟨w.heap.size, 0, none⟩ = some (.int .i64 1) ∧ w'.cell? ⟨w.heap.size, 1, none⟩ = some (.int .i64 ca) ∧ w'.cell? ⟨w.heap.size, 2, none⟩ = some (.int .i64 mo) ∧ w'.cell? ⟨w.heap.size, 3, none⟩ = some (.int .i64 dy) ∧ w'.cell? ⟨w.heap.size, 4, none⟩ = some (.int .i64 nn) ∧ w'.cell? ⟨w.heap.size, 5, none⟩ = some (.int .i64 wd) ∧ w'.cell? ⟨w.heap.size, 6, none⟩ = some (.int .i64 of) ∧ w'.cell? ⟨w.heap.size, 7, none⟩ = some (.int .i64 lo) ∧ w'.cell? ⟨w.heap.size, 8, none⟩ = some (.int .i64 hi) ∧ w'.cell? ⟨w.heap.size, 9, none⟩ = some (.int .i64 mvs)) (first | exact HS.out _ HX.out)
   (first
    | (go_at_call 72; (with_reducible refine (C1.out _ (RomanT.call HRB.out HX.out)).mono ?_); rintro e w2 ⟨rfl, hb2⟩; replace HX := Lib.hid (thenB HX.out hb2); clear hb2; try dsimp only)
    | (go_at_call 72; (with_reducible refine (C2.out _ (RomanT.call HRB.out HX.out)).mono ?_); rintro e w3 ⟨rfl, hb3⟩; replace HX := Lib.hid (thenB HX.out hb3); clear hb3; try dsimp only)
    | (go_at_call 80; (with_reducible refine (HC.out _ (RomanT.call HRB.out HX.out)).mono ?_); rintro e w4 ⟨v, l, rfl, hv, hl, hm, hb4⟩; have HV := Lib.hid (hv.low (show w.heap.size ≤ _ from Nat.le_trans (Nat.le_of_lt HLT.out) HX.out.size)); have HL := Lib.hid (And.intro hl hm); replace HX := Lib.hid (thenB HX.out hb4); clear hv hl hm hb4; try dsimp only))
  go_wp2_with fail
  go_ret
  first | exact ⟨_, l, rfl, HV.out, HL.out.1, HL.out.2, thenB HB.out HX.out⟩ | exact ⟨_, rfl, l, HV.out, HL.out.1, HL.out.2, thenB HB.out HX.out⟩
set_option maxRecDepth 100000 in
set_option maxHeartbeats 16000000 in
theorem on_nth (x : Hol) (y : Int) (w : World) (hr : RomanT w) (hk : x.kind = 2) (m1 : 1 ≤ x.month) (m2 : x.month ≤ 12) (w1 : 1 ≤ x.wday) (w2 : x.wday ≤ 7) (n1 : -5 ≤ x.n) (n2 : x.n ≤ 5) (h1 : 1 ≤ y) (h2 : y ≤ 9999) :
    Calls Tryz.prog 58 #[holV x, .int .i64 y] w (OnPost x y w) := by
  have HC := Lib.hid fun w0 h => nth_any x y w0 h hk m1 m2 w1 w2 n1 n2 h1 h2
  clear m1 m2 w1 w2 n1 n2
  unfold OnPost
  obtain ⟨P, hP⟩ : ∃ P : Int → Prop, ∀ t, OnD x y t ↔ P t := ⟨_, fun t => Iff.rfl⟩
  simp only [hP] at HC ⊢
  obtain ⟨ki, ca, mo, dy, nn, wd, of, lo, hi, mvs⟩ := x
  simp only at hk
  subst hk
  try unfold holV at HC
  unfold holV
  simp only at HC ⊢
  obtain ⟨wB, hwB⟩ : ∃ W, w.alloc (.cells #[.int .i64 2, .int .i64 ca, .int .i64 mo, .int .i64 dy, .int .i64 nn, .int .i64 wd, .int .i64 of, .int .i64 lo, .int .i64 hi, .int .i64 mvs] 59) = W := ⟨_, rfl⟩
  have hB : Below w.heap.size w wB := by rw [← hwB]; exact (Below.refl _ _).alloc (Nat.le_refl _) _
  have HB := Lib.hid hB
  have HRB := Lib.hid (RomanT.call hr hB)
  have HLT := Lib.hid (show w.heap.size < wB.heap.size by rw [← hwB]; simp)
  have hs : wB.cell? ⟨w.heap.size, 0, none⟩ = some (.int .i64 2) ∧ wB.cell? ⟨w.heap.size, 1, none⟩ = some (.int .i64 ca) ∧ wB.cell? ⟨w.heap.size, 2, none⟩ = some (.int .i64 mo) ∧ wB.cell? ⟨w.heap.size, 3, none⟩ = some (.int .i64 dy) ∧ wB.cell? ⟨w.heap.size, 4, none⟩ = some (.int .i64 nn) ∧ wB.cell? ⟨w.heap.size, 5, none⟩ = some (.int .i64 wd) ∧ wB.cell? ⟨w.heap.size, 6, none⟩ = some (.int .i64 of) ∧ wB.cell? ⟨w.heap.size, 7, none⟩ = some (.int .i64 lo) ∧ wB.cell? ⟨w.heap.size, 8, none⟩ = some (.int .i64 hi) ∧ wB.cell? ⟨w.heap.size, 9, none⟩ = some (.int .i64 mvs) := by rw [← hwB]; simp
  have HS : Hid (∀ w' : World, Below wB.heap.size wB w' → (w'.cell? ⟨w.heap.size, 0, none⟩ = some (.int .i64 2) ∧ w'.cell? ⟨w.heap.size, 1, none⟩ = some (.int .i64 ca) ∧ w'.cell? ⟨w.heap.size, 2, none⟩ = some (.int .i64 mo) ∧ w'.cell? ⟨w.heap.size, 3, none⟩ = some (.int .i64 dy) ∧ w'.cell? ⟨w.heap.size, 4, none⟩ = some (.int .i64 nn) ∧ w'.cell? ⟨w.heap.size, 5, none⟩ = some (.int .i64 wd) ∧ w'.cell? ⟨w.heap.size, 6, none⟩ = some (.int .i64 of) ∧ w'.cell? ⟨w.heap.size, 7, none⟩ = some (.int .i64 lo) ∧ w'.cell? ⟨w.heap.size, 8, none⟩ = some (.int .i64 hi) ∧ w'.cell? ⟨w.heap.size, 9, none⟩ = some (.int .i64 mvs))) := Lib.hid fun w' hb => by
    obtain ⟨s0, s1, s2, s3, s4, s5, s6, s7, s8, s9⟩ := hs
    exact ⟨(hb.cell (p := ⟨w.heap.size, 0, none⟩) HLT.out).trans s0, (hb.cell (p := ⟨w.heap.size, 1, none⟩) HLT.out).trans s1, (hb.cell (p := ⟨w.heap.size, 2, none⟩) HLT.out).trans s2, (hb.cell (p := ⟨w.heap.size, 3, none⟩) HLT.out).trans s3, (hb.cell (p := ⟨w.heap.size, 4, none⟩) HLT.out).trans s4, (hb.cell (p := ⟨w.heap.size, 5, none⟩) HLT.out).trans s5, (hb.cell (p := ⟨w.heap.size, 6, none⟩) HLT.out).trans s6, (hb.cell (p := ⟨w.heap.size, 7, none⟩) HLT.out).trans s7, (hb.cell (p := ⟨w.heap.size, 8, none⟩) HLT.out).trans s8, (hb.cell (p := ⟨w.heap.size, 9, none⟩) HLT.out).trans s9⟩
  obtain ⟨s0, s1, s2, s3, s4, s5, s6, s7, s8, s9⟩ := hs
  clear hB hr hP
  go_enter Tryz.func58, Tryz.ntmps58
  go_wp2_with (go_at_call 81; (with_reducible refine (HC.out _ HRB.out).mono ?_); rintro e w4 ⟨v, l, rfl, hv, hl, hm, hb4⟩; have HV := Lib.hid (hv.low (show w.heap.size ≤ _ from Nat.le_of_lt HLT.out)); have HL := Lib.hid (And.intro hl hm); have HX := Lib.hid hb4; clear hv hl hm hb4)
  go_ret
  first | exact ⟨_, l, rfl, HV.out, HL.out.1, HL.out.2, thenB HB.out HX.out⟩ | exact ⟨_, rfl, l, HV.out, HL.out.1, HL.out.2, thenB HB.out HX.out⟩
set_option maxRecDepth 100000 in
set_option maxHeartbeats 16000000 in
theorem on_east3 (x : Hol) (y : Int) (w : World) (hr : RomanT w) (hk : x.kind = 3) (o1 : -100 ≤ x.off) (o2 : x.off ≤ 100) (h1 : 1 ≤ y) (h2 : y ≤ 9999) :
    Calls Tryz.prog 58 #[holV x, .int .i64 y] w (OnPost x y w) := by
  have HC : Hid (∀ w0, RomanT w0 → Calls Tryz.prog 82 #[.int .i64 y, .bool false] w0 fun e w' => ∃ r, e = .returned (.tuple #[.int .i64 r, .nilIface]) ∧ (-900000 ≤ r ∧ r ≤ 4000000) ∧ (∀ t, t ∈ [r + x.off] ↔ OnD x y t) ∧ Below w0.heap.size w0 w') := Lib.hid fun w0 h => (easter_all y false w0 h).mono fun e w' ⟨r, z, g1, g2, g3⟩ => by
    rcases eas_cases g2 with ⟨-, -, g⟩ | ⟨-, -, rfl, b1, b2, rfl⟩
    · omega
    · refine ⟨_, g1, ⟨b1, b2⟩, fun t => ?_, g3⟩
      unfold OnD
      rw [if_neg (by omega), if_neg (by omega), hk]
      simp
  unfold OnPost
  obtain ⟨P, hP⟩ : ∃ P : Int → Prop, ∀ t, OnD x y t ↔ P t := ⟨_, fun t => Iff.rfl⟩
  simp only [hP] at HC ⊢
  obtain ⟨ki, ca, mo, dy, nn, wd, of, lo, hi, mvs⟩ := x
  simp only at hk
  subst hk
  try unfold holV at HC
  unfold holV
  simp only at HC o1 o2 ⊢
  obtain ⟨wB, hwB⟩ : ∃ W, w.alloc (.cells #[.int .i64 3, .int .i64 ca, .int .i64 mo, .int .i64 dy, .int .i64 nn, .int .i64 wd, .int .i64 of, .int .i64 lo, .int .i64 hi, .int .i64 mvs] 59) = W := ⟨_, rfl⟩
  have hB : Below w.heap.size w wB := by rw [← hwB]; exact (Below.refl _ _).alloc (Nat.le_refl _) _
  have HB := Lib.hid hB
  have HRB := Lib.hid (RomanT.call hr hB)
  have HLT := Lib.hid (show w.heap.size < wB.heap.size by rw [← hwB]; simp)
  have hs : wB.cell? ⟨w.heap.size, 0, none⟩ = some (.int .i64 3) ∧ wB.cell? ⟨w.heap.size, 1, none⟩ = some (.int .i64 ca) ∧ wB.cell? ⟨w.heap.size, 2, none⟩ = some (.int .i64 mo) ∧ wB.cell? ⟨w.heap.size, 3, none⟩ = some (.int .i64 dy) ∧ wB.cell? ⟨w.heap.size, 4, none⟩ = some (.int .i64 nn) ∧ wB.cell? ⟨w.heap.size, 5, none⟩ = some (.int .i64 wd) ∧ wB.cell? ⟨w.heap.size, 6, none⟩ = some (.int .i64 of) ∧ wB.cell? ⟨w.heap.size, 7, none⟩ = some (.int .i64 lo) ∧ wB.cell? ⟨w.heap.size, 8, none⟩ = some (.int .i64 hi) ∧ wB.cell? ⟨w.heap.size, 9, none⟩ = some (.int .i64 mvs) := by rw [← hwB]; simp
  have HS : Hid (∀ w' : World, Below wB.heap.size wB w' → (w'.cell? ⟨w.heap.size, 0, none⟩ = some (.int .i64 3) ∧ w'.cell? ⟨w.heap.size, 1, none⟩ = some (.int .i64 ca) ∧ w'.cell? ⟨w.heap.size, 2, none⟩ = some (.int .i64 mo) ∧ w'.cell? ⟨w.heap.size, 3, none⟩ = some (.int .i64 dy) ∧ w'.cell? ⟨w.heap.size, 4, none⟩ = some (.int .i64 nn) ∧ w'.cell? ⟨w.heap.size, 5, none⟩ = some (.int .i64 wd) ∧ w'.cell? ⟨w.heap.size, 6, none⟩ = some (.int .i64 of) ∧ w'.cell? ⟨w.heap.size, 7, none⟩ = some (.int .i64 lo) ∧ w'.cell? ⟨w.heap.size, 8, none⟩ = some (.int .i64 hi) ∧ w'.cell? ⟨w.heap.size, 9, none⟩ = some (.int .i64 mvs))) := Lib.hid fun w' hb => by
    obtain ⟨s0, s1, s2, s3, s4, s5, s6, s7, s8, s9⟩ := hs
    exact ⟨(hb.cell (p := ⟨w.heap.size, 0, none⟩) HLT.out).trans s0, (hb.cell (p := ⟨w.heap.size, 1, none⟩) HLT.out).trans s1, (hb.cell (p := ⟨w.heap.size, 2, none⟩) HLT.out).trans s2, (hb.cell (p := ⟨w.heap.size, 3, none⟩) HLT.out).trans s3, (hb.cell (p := ⟨w.heap.size, 4, none⟩) HLT.out).trans s4, (hb.cell (p := ⟨w.heap.size, 5, none⟩) HLT.out).trans s5, (hb.cell (p := ⟨w.heap.size, 6, none⟩) HLT.out).trans s6, (hb.cell (p := ⟨w.heap.size, 7, none⟩) HLT.out).trans s7, (hb.cell (p := ⟨w.heap.size, 8, none⟩) HLT.out).trans s8, (hb.cell (p := ⟨w.heap.size, 9, none⟩) HLT.out).trans s9⟩
  obtain ⟨s0, s1, s2, s3, s4, s5, s6, s7, s8, s9⟩ := hs
  clear hB hr hP
  go_enter Tryz.func58, Tryz.ntmps58
  go_upto_region 9 with (go_at_call 82; (with_reducible refine (HC.out _ HRB.out).mono ?_); rintro e w4 ⟨r, rfl, hrb, hm, hb4⟩; have HM := Lib.hid hm; have HX := Lib.hid hb4; clear hm hb4)
  have q1 : wrap64 (r + of) = r + of := wrap_in (InI.mk (by omega) (by omega))
  have q6 := (HX.out.cell (p := ⟨w.heap.size, 6, none⟩) HLT.out).trans s6
  have HBX := Lib.hid (thenB HB.out HX.out)
  clear s0 s1 s2 s3 s4 s5 s6 s7 s8 s9 hwB
  go_wp2_with fail
  go_ret
  first | exact ⟨_, [r + of], rfl, IntL.one _ HBX.out.size _, by simp, HM.out, HBX.out.alloc HBX.out.size _⟩ | exact ⟨_, rfl, [r + of], IntL.one _ HBX.out.size _, by simp, HM.out, HBX.out.alloc HBX.out.size _⟩
set_option maxRecDepth 100000 in
set_option maxHeartbeats 16000000 in
theorem on_east4 (x : Hol) (y : Int) (w : World) (hr : RomanT w) (hk : x.kind = 4) (o1 : -100 ≤ x.off) (o2 : x.off ≤ 100) (h1 : 1 ≤ y) (h2 : y ≤ 9999) :
    Calls Tryz.prog 58 #[holV x, .int .i64 y] w (OnPost x y w) := by
  have HC : Hid (∀ w0, RomanT w0 → Calls Tryz.prog 82 #[.int .i64 y, .bool true] w0 fun e w' => ∃ r, e = .returned (.tuple #[.int .i64 r, .nilIface]) ∧ (-900000 ≤ r ∧ r ≤ 4000000) ∧ (∀ t, t ∈ [r + x.off] ↔ OnD x y t) ∧ Below w0.heap.size w0 w') := Lib.hid fun w0 h => (easter_all y true w0 h).mono fun e w' ⟨r, z, g1, g2, g3⟩ => by
    rcases eas_cases g2 with ⟨-, -, g⟩ | ⟨-, -, rfl, b1, b2, rfl⟩
    · omega
    · refine ⟨_, g1, ⟨b1, b2⟩, fun t => ?_, g3⟩
      unfold OnD
      rw [if_neg (by omega), if_neg (by omega), hk]
      simp
  unfold OnPost
  obtain ⟨P, hP⟩ : ∃ P : Int → Prop, ∀ t, OnD x y t ↔ P t := ⟨_, fun t => Iff.rfl⟩
  simp only [hP] at HC ⊢
  obtain ⟨ki, ca, mo, dy, nn, wd, of, lo, hi, mvs⟩ := x
  simp only at hk
  subst hk
  try unfold holV at HC
  unfold holV
  simp only at HC o1 o2 ⊢
  obtain ⟨wB, hwB⟩ : ∃ W, w.alloc (.cells #[.int .i64 4, .int .i64 ca, .int .i64 mo, .int .i64 dy, .int .i64 nn, .int .i64 wd, .int .i64 of, .int .i64 lo, .int .i64 hi, .int .i64 mvs] 59) = W := ⟨_, rfl⟩
  have hB : Below w.heap.size w wB := by rw [← hwB]; exact (Below.refl _ _).alloc (Nat.le_refl _) _
  have HB := Lib.hid hB
  have HRB := Lib.hid (RomanT.call hr hB)
  have HLT := Lib.hid (show w.heap.size < wB.heap.size by rw [← hwB]; simp)
  have hs : wB.cell? ⟨w.heap.size, 0, none⟩ = some (.int .i64 4) ∧ wB.cell? ⟨w.heap.size, 1, none⟩ = some (.int .i64 ca) ∧ wB.cell? ⟨w.heap.size, 2, none⟩ = some (.int .i64 mo) ∧ wB.cell? ⟨w.heap.size, 3, none⟩ = some (.int .i64 dy) ∧ wB.cell? ⟨w.heap.size, 4, none⟩ = some (.int .i64 nn) ∧ wB.cell? ⟨w.heap.size, 5, none⟩ = some (.int .i64 wd) ∧ wB.cell? ⟨w.heap.size, 6, none⟩ = some (.int .i64 of) ∧ wB.cell? ⟨w.heap.size, 7, none⟩ = some (.int .i64 lo) ∧ wB.cell? ⟨w.heap.size, 8, none⟩ = some (.int .i64 hi) ∧ wB.cell? ⟨w.heap.size, 9, none⟩ = some (.int .i64 mvs) := by rw [← hwB]; simp
  have HS : Hid (∀ w' : World, Below wB.heap.size wB w' → (w'.cell? ⟨w.heap.size, 0, none⟩ = some (.int .i64 4) ∧ w'.cell? ⟨w.heap.size, 1, none⟩ = some (.int .i64 ca) ∧ w'.cell? ⟨w.heap.size, 2, none⟩ = some (.int .i64 mo) ∧ w'.cell? ⟨w.heap.size, 3, none⟩ = some (.int .i64 dy) ∧ w'.cell? ⟨w.heap.size, 4, none⟩ = some (.int .i64 nn) ∧ w'.cell? ⟨w.heap.size, 5, none⟩ = some (.int .i64 wd) ∧ w'.cell? ⟨w.heap.size, 6, none⟩ = some (.int .i64 of) ∧ w'.cell? ⟨w.heap.size, 7, none⟩ = some (.int .i64 lo) ∧ w'.cell? ⟨w.heap.size, 8, none⟩ = some (.int .i64 hi) ∧ w'.cell? ⟨w.heap.size, 9, none⟩ = some (.int .i64 mvs))) := Lib.hid fun w' hb => by
    obtain ⟨s0, s1, s2, s3, s4, s5, s6, s7, s8, s9⟩ := hs
    exact ⟨(hb.cell (p := ⟨w.heap.size, 0, none⟩) HLT.out).trans s0, (hb.cell (p := ⟨w.heap.size, 1, none⟩) HLT.out).trans s1, (hb.cell (p := ⟨w.heap.size, 2, none⟩) HLT.out).trans s2, (hb.cell (p := ⟨w.heap.size, 3, none⟩) HLT.out).trans s3, (hb.cell (p := ⟨w.heap.size, 4, none⟩) HLT.out).trans s4, (hb.cell (p := ⟨w.heap.size, 5, none⟩) HLT.out).trans s5, (hb.cell (p := ⟨w.heap.size, 6, none⟩) HLT.out).trans s6, (hb.cell (p := ⟨w.heap.size, 7, none⟩) HLT.out).trans s7, (hb.cell (p := ⟨w.heap.size, 8, none⟩) HLT.out).trans s8, (hb.cell (p := ⟨w.heap.size, 9, none⟩) HLT.out).trans s9⟩
  obtain ⟨s0, s1, s2, s3, s4, s5, s6, s7, s8, s9⟩ := hs
  clear hB hr hP
  go_enter Tryz.func58, Tryz.ntmps58
  go_upto_region 9 with (go_at_call 82; (with_reducible refine (HC.out _ HRB.out).mono ?_); rintro e w4 ⟨r, rfl, hrb, hm, hb4⟩; have HM := Lib.hid hm; have HX := Lib.hid hb4; clear hm hb4)
  have q1 : wrap64 (r + of) = r + of := wrap_in (InI.mk (by omega) (by omega))
  have q6 := (HX.out.cell (p := ⟨w.heap.size, 6, none⟩) HLT.out).trans s6
  have HBX := Lib.hid (thenB HB.out HX.out)
  clear s0 s1 s2 s3 s4 s5 s6 s7 s8 s9 hwB
  go_wp2_with fail
  go_ret
  first | exact ⟨_, [r + of], rfl, IntL.one _ HBX.out.size _, by simp, HM.out, HBX.out.alloc HBX.out.size _⟩ | exact ⟨_, rfl, [r + of], IntL.one _ HBX.out.size _, by simp, HM.out, HBX.out.alloc HBX.out.size _⟩
theorem on_any (x : Hol) (y : Int) (w : World) (hr : RomanT w) (hx : hE x = 0) (h1 : 1 ≤ y) (h2 : y ≤ 9999) : Calls Tryz.prog 58 #[holV x, .int .i64 y] w (OnPost x y w) := by
  rcases hE_facts hx with ⟨hk, c1, c2⟩ | ⟨hk, m1, m2, w1, w2, n1, n2⟩ | ⟨hk, o1, o2⟩ | ⟨hk, o1, o2⟩
  · exact on_date x y w hr hk c1 c2 h1 h2
  · exact on_nth x y w hr hk m1 m2 w1 w2 n1 n2 h1 h2
  · exact on_east3 x y w hr hk o1 o2 h1 h2
  · exact on_east4 x y w hr hk o1 o2 h1 h2
end Go.Proofs.YtbgcccfgcdkmdaaGreatDoor
