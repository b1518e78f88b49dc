/- The leveller's later. -/
import Derived.Test.YthhaopdimilmcaaDoorLevA
namespace Go.Proofs.YthhaopdimilmcaaDoor
open Go.RowKit
def inZ (z : Nat → Bool) (j : Nat) : Int := if z j = true then 1 else 0
set_option maxRecDepth 100000 in
set_option maxHeartbeats 4000000 in
theorem later_any (K : Nat) (oa : Option Addr) (n cap : Nat) (oh : Option Addr) (hn hc B I : Nat) (f t : Nat → Int) (z : Nat → Bool) (x : Int) (w : World) (hn6 : n ≤ 1000000) (hK : LevB w K oa n cap oh hn hc B I) (hO : OwnS w B n f t) (hI : OwnI w I n (inZ z)) :
    Calls Tryd.prog 59 #[.pointer (some ⟨K, 0, none⟩), .int .i64 x] w fun e w' => e = .returned (.int .i64 (laterF f t z x n)) ∧ Below w.heap.size w w' := by
  have HK := Lib.hid hK
  have HO := Lib.hid hO
  have HI := Lib.hid hI
  obtain ⟨_, -, -, c2, c3⟩ := hK
  clear hO hI
  go_enter Tryd.func59, Tryd.ntmps59
  go_wp2_with fail
  clear c2 c3
  go_loopw [5, 14] (fun a c wr => ∃ (N : Int) (k : Nat), a = .int .i64 N ∧ c = .int .i64 (k : Int) ∧ k ≤ n ∧ Hid (N = laterF f t z x k) ∧ Hid (Below w.heap.size w wr)) (fun _ c _ => n - (intOf c).toNat)
  case atStart => exact ⟨x, 0, rfl, rfl, by omega, Lib.hid rfl, Lib.hid (Below.refl _ _)⟩
  case round =>
    obtain ⟨N, k, rfl, rfl, hk, HN, HW⟩ := hrel
    obtain ⟨wA, rfl⟩ : ∃ wo : World, wo = wr := ⟨_, rfl⟩
    by_cases hkn : k < n
    · obtain ⟨_, -, -, -, c3⟩ := HK.out.call HW.out
      obtain ⟨⟨s0, -⟩, s1, -⟩ := (HO.out.call HW.out).2 k hkn
      have ci := ((HI.out.call HW.out).2 k hkn).1
      have hib := (HI.out.call HW.out).1
      have hKb := (HK.out.call HW.out).1
      have hstep : laterF f t z x (k + 1) = if z k = true ∧ x < t k ∧ (laterF f t z x k = x ∨ t k < laterF f t z x k) then t k else laterF f t z x k := rfl
      rw [← HN.out] at hstep
      obtain ⟨F, hF⟩ : ∃ y, f k = y := ⟨_, rfl⟩
      obtain ⟨TK, hTK⟩ : ∃ y, t k = y := ⟨_, rfl⟩
      rw [hF] at s0
      rw [hTK] at s1 hstep
      have HST := Lib.hid hstep
      have k1 : (0 : Int) ≤ (k : Int) := by omega
      have k2 : (k : Int) < (n : Int) := by omega
      have HWA := Lib.hid (HW.out.alloc HW.out.size (.cells #[.int .i64 F, .int .i64 TK] 38))
      clear hF hTK hstep
      by_cases hz : z k = true
      · have e1 : inZ z k = 1 := if_pos hz
        rw [e1] at ci
        have HZ := Lib.hid hz
        clear hz e1
        by_cases hx : x < TK
        · have d1 : decide (x < TK) = true := decide_eq_true hx
          by_cases hN : N = x
          · subst hN
            have d2 : (N == N) = true := by simp
            go_wp2_with fail
            go_roundw
            case rel => exact ⟨TK, k + 1, rfl, by go_num, by omega, Lib.hid (by rw [HST.out, if_pos ⟨HZ.out, hx, .inl rfl⟩]), HWA⟩
            case measure => simp [intOf]; omega
          · have d2 : (N == x) = false := by simpa using hN
            by_cases ht : TK < N
            · have d3 : decide (TK < N) = true := decide_eq_true ht
              go_wp2_with fail
              go_roundw
              case rel => exact ⟨TK, k + 1, rfl, by go_num, by omega, Lib.hid (by rw [HST.out, if_pos ⟨HZ.out, hx, .inr ht⟩]), HWA⟩
              case measure => simp [intOf]; omega
            · have d3 : decide (TK < N) = false := decide_eq_false ht
              have HNN := Lib.hid (show ¬ (z k = true ∧ x < TK ∧ (N = x ∨ TK < N)) from fun h => h.2.2.elim hN ht)
              clear hN ht
              go_wp2_with fail
              go_roundw
              case rel => exact ⟨N, k + 1, rfl, by go_num, by omega, Lib.hid (by rw [HST.out, if_neg HNN.out]), HWA⟩
              case measure => simp [intOf]; omega
        · have d1 : decide (x < TK) = false := decide_eq_false hx
          have HNN := Lib.hid (show ¬ (z k = true ∧ x < TK ∧ (N = x ∨ TK < N)) from fun h => hx h.2.1)
          clear hx
          go_wp2_with fail
          go_roundw
          case rel => exact ⟨N, k + 1, rfl, by go_num, by omega, Lib.hid (by rw [HST.out, if_neg HNN.out]), HWA⟩
          case measure => simp [intOf]; omega
      · have e1 : inZ z k = 0 := if_neg hz
        rw [e1] at ci
        have HNN := Lib.hid (show ¬ (z k = true ∧ x < TK ∧ (N = x ∨ TK < N)) from fun h => hz h.1)
        clear hz e1
        go_wp2_with fail
        go_roundw
        case rel => exact ⟨N, k + 1, rfl, by go_num, by omega, Lib.hid (by rw [HST.out, if_neg HNN.out]), HWA⟩
        case measure => simp [intOf]; omega
    · obtain rfl : n = k := by omega
      go_wp2_with fail
      go_ret
      exact ⟨by rw [← HN.out]; rfl, HW.out⟩
end Go.Proofs.YthhaopdimilmcaaDoor
