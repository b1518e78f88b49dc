/- cron.near, month's closure, slices.IndexFunc and ContainsFunc over it; weekdays. -/
import Derived.Test.YtdnbnpknmdcljaaGreatDoorCtmB
import Derived.Test.YtdnbnpknmdcljaaGreatDoorClkB
namespace Go.Proofs.YtdnbnpknmdcljaaGreatDoor
open Go.RowKit
set_option maxHeartbeats 400000 in
theorem weekday_any (n : Int) (w : World) (hn : InI n) : Calls Tryz.prog 44 #[.int .i64 n] w fun e w' => e = .returned (.int .i64 (Dm.wd n)) ∧ w = w' := by
  have HI := Lib.hid hn; clear hn
  go_enter Tryz.func44, Tryz.ntmps44
  go_wp2_with fail
  refine (mod_any _ _ _ HI.out (by omega) (by omega)).mono ?_; rintro e w' ⟨rfl, rfl⟩
  go_wp2_with fail
  refine (mod_any _ _ _ (InI.mk (by omega) (by omega)) (by omega) (by omega)).mono ?_; rintro e w' ⟨rfl, rfl⟩
  go_wp2_with fail
  go_ret
  exact ⟨rfl, rfl⟩
set_option maxHeartbeats 400000 in
theorem refWeekday_any (n : Int) (w : World) : Calls Tryz.prog 27 #[.int .i64 n] w fun e w' => e = .returned (.int .i64 (Dm.wd n)) ∧ w = w' := by
  go_enter Tryz.func27, Tryz.ntmps27
  go_wp2_with fail
  refine (Mod_any _ _ _ (by omega) (by omega)).mono ?_; rintro e w' ⟨rfl, rfl⟩
  go_wp2_with fail
  refine (Mod_any _ _ _ (by omega) (by omega)).mono ?_; rintro e w' ⟨rfl, rfl⟩
  go_wp2_with fail
  go_ret
  exact ⟨rfl, rfl⟩
set_option maxHeartbeats 1000000 in
theorem near_any (k long x : Int) (w : World) (h1 : -1000 ≤ k) (h2 : k ≤ 1000) :
    Calls Tryz.prog 48 #[.int .i64 k, .int .i64 long, .int .i64 x] w fun e w' => e = .returned (.int .i64 (nearI k long x)) ∧ w' = w := by
  obtain ⟨R, hR⟩ : ∃ R, nearI k long x = R := ⟨_, rfl⟩
  rw [hR]
  unfold nearI at hR
  by_cases x6 : x = 6
  · rw [if_pos x6] at hR
    subst x6
    by_cases hk : 1 < k
    · rw [if_pos hk] at hR
      subst hR
      go_enter Tryz.func48, Tryz.ntmps48
      go_wp2_with fail
      go_ret
      exact ⟨rfl, rfl⟩
    · rw [if_neg hk] at hR
      subst hR
      have hd : decide (1 < k) = false := decide_eq_false hk
      go_enter Tryz.func48, Tryz.ntmps48
      go_wp2_with fail
      go_ret
      exact ⟨rfl, rfl⟩
  · rw [if_neg x6] at hR
    have b6 : (x == 6) = false := by simpa using x6
    clear x6
    by_cases x7 : x = 7
    · rw [if_pos x7] at hR
      subst x7
      clear b6
      by_cases hk : k < long
      · rw [if_pos hk] at hR
        subst hR
        go_enter Tryz.func48, Tryz.ntmps48
        go_wp2_with fail
        go_ret
        exact ⟨rfl, rfl⟩
      · rw [if_neg hk] at hR
        subst hR
        have hd : decide (k < long) = false := decide_eq_false hk
        go_enter Tryz.func48, Tryz.ntmps48
        go_wp2_with fail
        go_ret
        exact ⟨rfl, rfl⟩
    · rw [if_neg x7] at hR
      subst hR
      have b7 : (x == 7) = false := by simpa using x7
      clear x7
      go_enter Tryz.func48, Tryz.ntmps48
      go_wp2_with fail
      go_ret
      exact ⟨rfl, rfl⟩
/-- What the closure asks of a number. -/
def nearK (n d long k : Int) : Bool := decide (k ≤ long) && decide (d = nearI k long (Dm.wd (n - d + k)))
set_option maxHeartbeats 2000000 in
theorem monthF_any (k n d long : Int) (BL BD BN : Nat) (w : World) (cl : w.cell? ⟨BL, 0, none⟩ = some (.int .i64 long)) (cd : w.cell? ⟨BD, 3, none⟩ = some (.int .i64 d)) (cn : w.cell? ⟨BN, 0, none⟩ = some (.int .i64 n))
    (k1 : 1 ≤ k) (k2 : k ≤ 31) (d1 : 1 ≤ d) (d2 : d ≤ 31) (n1 : -4000000 ≤ n) (n2 : n ≤ 4000000) :
    Calls Tryz.prog 47 #[.int .i64 k, .pointer (some ⟨BL, 0, none⟩), .pointer (some ⟨BD, 0, none⟩), .pointer (some ⟨BN, 0, none⟩)] w fun e w' => e = .returned (.bool (nearK n d long k)) ∧ ∃ q, w' = w.drewN q := by
  obtain ⟨R, hR⟩ : ∃ R, nearK n d long k = R := ⟨_, rfl⟩
  rw [hR]
  unfold nearK at hR
  by_cases hk : k ≤ long
  · rw [decide_eq_true hk, Bool.true_and] at hR
    have e1 : IntKind.i64.wrap (n - d) = n - d := IntWalk.i64_in _ (by omega)
    have e2 : IntKind.i64.wrap (n - d + k) = n - d + k := IntWalk.i64_in _ (by omega)
    have CW : Hid (∀ m, Calls Tryz.prog 44 #[.int .i64 (n - d + k)] (w.drewN m) fun e w' => e = .returned (.int .i64 (Dm.wd (n - d + k))) ∧ w' = w.drewN m) := Lib.hid fun m => (weekday_any _ _ (InI.mk (by omega) (by omega))).mono fun e w' ⟨h1, h2⟩ => ⟨h1, h2.symm⟩
    obtain ⟨x, hx⟩ : ∃ x, Dm.wd (n - d + k) = x := ⟨_, rfl⟩
    rw [hx] at CW hR
    have CN : Hid (∀ m, Calls Tryz.prog 48 #[.int .i64 k, .int .i64 long, .int .i64 x] (w.drewN m) fun e w' => e = .returned (.int .i64 (nearI k long x)) ∧ w' = w.drewN m) := Lib.hid fun m => near_any _ _ _ _ (by omega) (by omega)
    obtain ⟨z, hz⟩ : ∃ z, nearI k long x = z := ⟨_, rfl⟩
    rw [hz] at CN hR
    have hR' : (d == z) = R := by rw [← hR]; rfl
    have hd : decide (k ≤ long) = true := decide_eq_true hk
    have HR := Lib.hid hR'
    clear hR hR' hx hz
    go_enter Tryz.func47, Tryz.ntmps47
    go_wp2_with fail
    go_quiet ((first | (go_at_call 44; exact Calls.quiet_of_same (CW.out _)) | (go_at_call 48; exact Calls.quiet_of_same (CN.out _))))
    go_wp2_with fail
    go_ret
    exact ⟨by rw [← HR.out]; rfl, _, rfl⟩
  · rw [decide_eq_false hk, Bool.false_and] at hR
    subst hR
    have hd : decide (k ≤ long) = false := decide_eq_false hk
    go_enter Tryz.func47, Tryz.ntmps47
    go_wp2_with fail
    go_quiet (fail)
    go_wp2_with fail
    go_ret
    exact ⟨rfl, _, rfl⟩
theorem any_false {l : List Int} {f : Int → Bool} (h : ∀ j, j < l.length → f (l.getD j 0) = false) : l.any f = false := by
  rw [List.any_eq_false]
  intro x hx
  obtain ⟨i, hi, rfl⟩ := mem_at hx
  rw [h i hi]
  decide
set_option maxHeartbeats 4000000 in
theorem indexFunc_any (v : Value) (l : List Int) (F : Int → Bool) (p1 p2 p3 : Value) (w : World) (h : IntS w v l) (hl : l.length ≤ 140737488355328)
    (hc : ∀ x m, x ∈ l → Calls Tryz.prog 47 #[.int .i64 x, p1, p2, p3] (w.drewN m) fun e w' => e = .returned (.bool (F x)) ∧ ∃ q, w' = (w.drewN m).drewN q) :
    Calls Tryz.prog 62 #[v, .func (.func 47) #[] #[p1, p2, p3]] w fun e w' => ∃ i : Int, e = .returned (.int .i64 i) ∧ (0 ≤ i ↔ l.any F = true) ∧ ∃ q, w' = w.drewN q := by
  obtain ⟨oa, cap, rfl, -, -⟩ := id h
  obtain ⟨n, hn⟩ : ∃ n, l.length = n := ⟨_, rfl⟩
  rw [hn] at h hl ⊢
  have H := Lib.hid h
  have HN := Lib.hid hn
  have HC := Lib.hid hc
  clear h hn hc
  go_enter Tryz.func62, Tryz.ntmps62
  go_wp2_with fail
  go_loopw [8] (fun c wr => ∃ (k m : Nat), c = .int .i64 (k : Int) ∧ k ≤ n ∧ wr = w.drewN m ∧ Hid (∀ j, j < k → F (l.getD j 0) = false)) (fun c _ => n - (intOf c).toNat)
  case atStart => exact ⟨0, 0, rfl, by omega, rfl, Lib.hid fun j hj => by omega⟩
  case round =>
    obtain ⟨k, m, rfl, hk, hwr, HK⟩ := hrel
    subst hwr
    by_cases hkn : k < n
    · have hkl : k < l.length := by rw [HN.out]; exact hkn
      obtain ⟨ad, rfl, hcell⟩ := H.out.at hkl
      have hmem := at_mem hkl
      obtain ⟨q, hq⟩ : ∃ q, l.getD k 0 = q := ⟨_, rfl⟩
      rw [hq] at hcell hmem
      have CF := Lib.hid (HC.out q m hmem)
      obtain ⟨b, hb⟩ : ∃ b, F q = b := ⟨_, rfl⟩
      rw [hb] at CF
      cases b with
      | true =>
        have HM : Hid (l.any F = true) := Lib.hid (List.any_eq_true.2 ⟨q, hmem, hb⟩)
        clear hb hq hkl hmem
        go_wp2_with (go_at_call 47; (with_reducible refine CF.out.mono ?_); rintro e w' ⟨rfl, q', rfl⟩)
        go_ret
        exact ⟨k, rfl, iff_of_true (by omega) HM.out, m + q', rfl⟩
      | false =>
        have HK2 : Hid (∀ j, j < k + 1 → F (l.getD j 0) = false) := Lib.hid fun j hj => by
          by_cases e : j = k
          · subst e; rw [hq]; exact hb
          · exact HK.out j (by omega)
        clear hb hq hkl hmem
        go_wp2_with (go_at_call 47; (with_reducible refine CF.out.mono ?_); rintro e w' ⟨rfl, q', rfl⟩)
        go_roundw
        case rel => exact ⟨k + 1, m + q', by go_num, by omega, rfl, HK2⟩
        case measure => simp [intOf]; omega
    · obtain rfl : k = n := by omega
      have HM : Hid (l.any F = false) := Lib.hid (any_false (by rw [HN.out]; exact HK.out))
      go_wp2_with fail
      go_ret
      exact ⟨-1, rfl, iff_of_false (by omega) (by rw [HM.out]; decide), m, rfl⟩
set_option maxHeartbeats 2000000 in
theorem containsFunc_any (v : Value) (l : List Int) (F : Int → Bool) (p1 p2 p3 : Value) (w : World) (h : IntS w v l) (hl : l.length ≤ 140737488355328)
    (hc : ∀ x m, x ∈ l → Calls Tryz.prog 47 #[.int .i64 x, p1, p2, p3] (w.drewN m) fun e w' => e = .returned (.bool (F x)) ∧ ∃ q, w' = (w.drewN m).drewN q) :
    Calls Tryz.prog 46 #[v, .func (.func 47) #[] #[p1, p2, p3]] w fun e w' => e = .returned (.bool (l.any F)) ∧ ∃ q, w' = w.drewN q := by
  have C := Lib.hid (indexFunc_any v l F p1 p2 p3 w h hl hc)
  obtain ⟨oa, cap, rfl, -, -⟩ := h
  obtain ⟨n, hn⟩ : ∃ n, l.length = n := ⟨_, rfl⟩
  rw [hn] at C ⊢
  obtain ⟨B, hB⟩ : ∃ B, l.any F = B := ⟨_, rfl⟩
  rw [hB]
  have HB := Lib.hid hB
  clear hn hB hc
  go_enter Tryz.func46, Tryz.ntmps46
  go_wp2_with (go_at_call 62; refine C.out.mono ?_; rintro e w1 ⟨i, rfl, hi, q, rfl⟩; have HI := Lib.hid hi; clear hi)
  go_ret
  have e : decide (0 ≤ i) = B := by rw [← HB.out, Bool.eq_iff_iff, decide_eq_true_eq]; exact HI.out
  exact ⟨by rw [← e]; rfl, q, rfl⟩
end Go.Proofs.YtdnbnpknmdcljaaGreatDoor
