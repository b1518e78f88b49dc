/- Whether a net may be: the document's. -/
import Derived.Test.YtpmppgmnnnlonaaDoorSpanO
namespace Go.Proofs.YtpmppgmnnnlonaaDoor
open Go.RowKit
set_option maxRecDepth 100000 in
set_option maxHeartbeats 2000000 in
theorem netCheck_any (oa : Option Addr) (n cap : Nat) (A : Nat → Option Addr) (L C : Nat → Nat) (z : Nat → Nat → Int) (w : World) (hn : n ≤ 1000000) (hL : ∀ i, i < n → L i ≤ 9223372036854775807) (hR : NetR w oa n A L C z) : Calls Tryd.prog 22 #[.slice oa n cap] w fun e w' => e = .returned (.int .i64 (netE n L z)) ∧ w' = w := by
  have HR := Lib.hid hR; clear hR
  have HL := Lib.hid hL; clear hL
  by_cases h1 : n < 1
  · rw [netE_out (.inl h1)]
    go_enter Tryd.func22, Tryd.ntmps22
    go_wp2_with fail
    go_ret
    exact ⟨rfl, rfl⟩
  · by_cases h2 : 6 < n
    · rw [netE_out (.inr h2)]
      go_enter Tryd.func22, Tryd.ntmps22
      go_wp2_with fail
      go_ret
      exact ⟨rfl, rfl⟩
    · rw [netE_in (by omega) (by omega)]
      obtain ⟨a, rfl⟩ := HR.out.1 (by omega)
      obtain ⟨_, hrow⟩ := HR.out.2 a rfl
      have HROW := Lib.hid hrow
      clear hrow
      go_enter Tryd.func22, Tryd.ntmps22
      go_wp2_with fail
      go_loop [3] (fun c => ∃ k : Nat, c = .int .i64 (k : Int) ∧ k ≤ n ∧ Hid (∀ i, i < k → rowE n L z i = 0)) (fun c => n - (intOf c).toNat)
      case atStart => exact ⟨0, rfl, by omega, Lib.hid fun i hi => absurd hi (Nat.not_lt_zero i)⟩
      case round =>
        obtain ⟨k, rfl, hk, HK⟩ := hrel
        by_cases hlt : k < n
        · have hFd : decide (k < n) = true := by simp; omega
          have i1 : (0 : Int) ≤ (k : Int) := by omega
          have i2 : (k : Int) < (n : Int) := by omega
          obtain ⟨hc, hA, hB⟩ := HROW.out k hlt
          have hLk := HL.out k hlt
          have HA := Lib.hid hA
          have HB := Lib.hid hB
          clear hA hB
          obtain ⟨l, hl⟩ : ∃ l, L k = l := ⟨_, rfl⟩
          rw [hl] at hc hLk
          by_cases hln : l = n
          · have HLN := Lib.hid (hl.trans hln)
            subst hln
            have hlb : ((l : Int) != (l : Int)) = false := by simp
            obtain ⟨b, hb⟩ := HA.out (by rw [hl]; omega)
            rw [hb] at hc
            obtain ⟨_, hcell⟩ := HB.out b hb
            rw [hl] at hcell
            clear hl hb
            have HCELL := Lib.hid hcell
            clear hcell
            go_wp2_with fail
            go_loop [4] (fun c => ∃ m : Nat, c = .int .i64 (m : Int) ∧ m ≤ l ∧ Hid (∀ j, j < m → okS (z k j))) (fun c => l - (intOf c).toNat)
            case atStart => exact ⟨0, rfl, by omega, Lib.hid fun i hi => absurd hi (Nat.not_lt_zero i)⟩
            case round =>
              obtain ⟨m, rfl, hm, HM⟩ := hrel
              by_cases hlt2 : m < l
              · have hz := HCELL.out m hlt2
                have j1 : (0 : Int) ≤ (m : Int) := by omega
                have j2 : (m : Int) < (l : Int) := by omega
                by_cases hok : okS (z k m)
                · have HOK := Lib.hid hok
                  clear hok
                  go_wp2_with fail
                  refine (setOK_yes _ _ HOK.out.1 HOK.out.2).mono ?_; rintro e w' ⟨rfl, rfl⟩
                  go_wp2_with fail
                  go_round
                  case rel =>
                    refine ⟨m + 1, by go_num, by omega, Lib.hid fun i hi => ?_⟩
                    by_cases e : i = m
                    · subst e; exact HOK.out
                    · exact HM.out i (by omega)
                  case measure => simp [intOf]; omega
                · have HBAD := Lib.hid hok
                  have h' : z k m < 0 ∨ 8191 < z k m := by unfold okS at hok; omega
                  clear hok
                  have HB' := Lib.hid h'
                  clear h'
                  go_wp2_with fail
                  refine (setOK_no _ _ HB'.out).mono ?_; rintro e w' ⟨rfl, rfl⟩
                  go_wp2_with fail
                  go_ret
                  refine ⟨ret1 ?_, rfl⟩
                  have h1 := rowE_bad HLN.out hlt2 HBAD.out
                  rw [firstE_hit HK.out (by rw [h1]; decide) _ hlt, h1]
              · obtain rfl : m = l := by omega
                go_wp2_with fail
                go_round
                case rel =>
                  refine ⟨k + 1, by go_num, by omega, Lib.hid fun i hi => ?_⟩
                  by_cases e : i = k
                  · subst e; exact rowE_ok HLN.out HM.out
                  · exact HK.out i (by omega)
                case measure => simp [intOf]; omega
          · have hlb : ((l : Int) != (n : Int)) = true := by simp; omega
            have HLN := Lib.hid (fun h : L k = n => hln (hl.symm.trans h))
            clear hl hln
            go_wp2_with fail
            go_ret
            refine ⟨ret1 ?_, rfl⟩
            have h1 := rowE_len (z := z) HLN.out
            rw [firstE_hit HK.out (by rw [h1]; decide) _ hlt, h1]
        · obtain rfl : k = n := by omega
          go_wp2_with fail
          go_ret
          exact ⟨ret1 (by rw [firstE_zero HK.out]), rfl⟩
end Go.Proofs.YtpmppgmnnnlonaaDoor
