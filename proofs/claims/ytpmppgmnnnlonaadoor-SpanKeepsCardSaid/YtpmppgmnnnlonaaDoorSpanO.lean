/- Whether a net may be: the program's Check, the document's. -/
import Derived.Test.YtpmppgmnnnlonaaDoorSpanI
import Derived.Test.YtpmppgmnnnlonaaDoorSpanN
namespace Go.Proofs.YtpmppgmnnnlonaaDoor
open Go.RowKit
theorem add_block (a : Addr) (k : Nat) : (a.add k).block = a.block := by unfold Addr.add; split <;> rfl
/-- A net that came in: its rows, their numbers. -/
def NetR (w : World) (oa : Option Addr) (n : Nat) (A : Nat → Option Addr) (L C : Nat → Nat) (z : Nat → Nat → Int) : Prop :=
  (0 < n → ∃ a, oa = some a) ∧ ∀ a, oa = some a → (0 < n → a.block < w.heap.size) ∧ ∀ i, i < n → w.cell? (a.add i) = some (.slice (A i) (L i) (C i)) ∧ (0 < L i → ∃ b, A i = some b) ∧ (∀ b, A i = some b → (0 < L i → b.block < w.heap.size) ∧ ∀ k, k < L i → w.cell? (b.add k) = some (.int .i64 (z i k)))
theorem NetR.call {w w' : World} {oa : Option Addr} {n : Nat} {A : Nat → Option Addr} {L C : Nat → Nat} {z : Nat → Nat → Int} (h : NetR w oa n A L C z) (hb : Below w.heap.size w w') : NetR w' oa n A L C z := by
  refine ⟨h.1, fun a ha => ?_⟩
  obtain ⟨h1, h2⟩ := h.2 a ha
  refine ⟨fun h => Nat.lt_of_lt_of_le (h1 h) hb.size, fun i hi => ?_⟩
  obtain ⟨h3, h4, h5⟩ := h2 i hi
  refine ⟨(hb.cell (p := a.add i) (by rw [add_block]; exact h1 (by omega))).trans h3, h4, fun b hb' => ?_⟩
  obtain ⟨h6, h7⟩ := h5 b hb'
  exact ⟨fun h => Nat.lt_of_lt_of_le (h6 h) hb.size, fun k hk => (hb.cell (p := b.add k) (by rw [add_block]; exact h6 (by omega))).trans (h7 k hk)⟩
theorem NetR.alloc {w : World} {oa : Option Addr} {n : Nat} {A : Nat → Option Addr} {L C : Nat → Nat} {z : Nat → Nat → Int} (h : NetR w oa n A L C z) (o : Obj) : NetR (w.alloc o) oa n A L C z := h.call (Below.alloc (Below.refl _ _) (Nat.le_refl _) _)
/-- What is wrong with a row; with a net. -/
noncomputable def rowE (n : Nat) (L : Nat → Nat) (z : Nat → Nat → Int) (i : Nat) : Int := open Classical in if L i ≠ n then 5 else if ∀ k, k < n → okS (z i k) then 0 else 1
noncomputable def netE (n : Nat) (L : Nat → Nat) (z : Nat → Nat → Int) : Int := if n < 1 ∨ 6 < n then 6 else firstE (rowE n L z) n
theorem rowE_len {n : Nat} {L : Nat → Nat} {z : Nat → Nat → Int} {i : Nat} (h : L i ≠ n) : rowE n L z i = 5 := by unfold rowE; rw [if_pos h]
theorem rowE_ok {n : Nat} {L : Nat → Nat} {z : Nat → Nat → Int} {i : Nat} (h : L i = n) (g : ∀ k, k < n → okS (z i k)) : rowE n L z i = 0 := by unfold rowE; rw [if_neg (by simpa using h), if_pos g]
theorem rowE_bad {n : Nat} {L : Nat → Nat} {z : Nat → Nat → Int} {i k : Nat} (h : L i = n) (hk : k < n) (g : ¬ okS (z i k)) : rowE n L z i = 1 := by unfold rowE; rw [if_neg (by simpa using h), if_neg (fun h => g (h k hk))]
theorem netE_in {n : Nat} {L : Nat → Nat} {z : Nat → Nat → Int} (h1 : 1 ≤ n) (h2 : n ≤ 6) : netE n L z = firstE (rowE n L z) n := if_neg (by omega)
theorem netE_out {n : Nat} {L : Nat → Nat} {z : Nat → Nat → Int} (h : n < 1 ∨ 6 < n) : netE n L z = 6 := if_pos h
theorem row_ways (n : Nat) (z : Nat → Int) : (∀ k, k < n → okS (z k)) ∨ ∃ k, k < n ∧ ¬ okS (z k) ∧ ∀ j, j < k → okS (z j) := by
  induction n with
  | zero => exact .inl fun k hk => absurd hk (Nat.not_lt_zero k)
  | succ n ih =>
    rcases ih with h | ⟨k, hk, h⟩
    · by_cases g : okS (z n)
      · refine .inl fun k hk => ?_
        by_cases e : k = n
        · subst e; exact g
        · exact h k (by omega)
      · exact .inr ⟨n, by omega, g, h⟩
    · exact .inr ⟨k, by omega, h⟩
set_option maxHeartbeats 1000000 in
theorem mayA_yes (b : Addr) (n cap : Nat) (zs : Nat → Int) (w : World) (hn : n ≤ 1000000) (hc : ∀ i, i < n → w.cell? (b.add i) = some (.int .i64 (zs i))) (hz : ∀ i, i < n → okS (zs i)) : Calls Tryd.prog 45 #[.slice (some b) n cap] w fun e w' => e = .returned (.bool true) ∧ w' = w := by
  have HC := Lib.hid hc; clear hc
  have HZ := Lib.hid hz; clear hz
  go_enter Tryd.func45, Tryd.ntmps45
  go_wp2_with fail
  go_loop [7] (fun c => ∃ k : Nat, c = .int .i64 (k : Int) ∧ k ≤ n) (fun c => n - (intOf c).toNat)
  case atStart => exact ⟨0, rfl, by omega⟩
  case round =>
    obtain ⟨k, rfl, hk⟩ := hrel
    by_cases hlt : k < n
    · have hc := HC.out k hlt
      obtain ⟨z1, z2⟩ := HZ.out k hlt
      obtain ⟨z, hz⟩ : ∃ z, zs k = z := ⟨_, rfl⟩
      rw [hz] at hc z1 z2
      clear hz
      have z3 : ¬ z < 0 := by omega
      have z4 : ¬ 8191 < z := by omega
      go_wp2_with fail
      go_round
      case rel => exact ⟨k + 1, by go_num, by omega⟩
      case measure => simp [intOf]; omega
    · go_wp2_with fail
      go_ret
      exact ⟨rfl, rfl⟩
set_option maxHeartbeats 1000000 in
theorem mayA_no (b : Addr) (n cap j : Nat) (zs : Nat → Int) (w : World) (hn : n ≤ 1000000) (hc : ∀ i, i < n → w.cell? (b.add i) = some (.int .i64 (zs i))) (hj : j < n) (hz : ¬ okS (zs j)) : Calls Tryd.prog 45 #[.slice (some b) n cap] w fun e w' => e = .returned (.bool false) ∧ w' = w := by
  have HC := Lib.hid hc; clear hc
  have HZ := Lib.hid hz; clear hz
  go_enter Tryd.func45, Tryd.ntmps45
  go_wp2_with fail
  go_loop [7] (fun c => ∃ k : Nat, c = .int .i64 (k : Int) ∧ k ≤ j) (fun c => n - (intOf c).toNat)
  case atStart => exact ⟨0, rfl, by omega⟩
  case round =>
    obtain ⟨k, rfl, hk⟩ := hrel
    have hlt : k < n := by omega
    have hc := HC.out k hlt
    by_cases hok : okS (zs k)
    · have hkj : k ≠ j := by rintro rfl; exact HZ.out hok
      obtain ⟨z1, z2⟩ := hok
      obtain ⟨z, hz⟩ : ∃ z, zs k = z := ⟨_, rfl⟩
      rw [hz] at hc z1 z2
      clear hz
      have z3 : ¬ z < 0 := by omega
      have z4 : ¬ 8191 < z := by omega
      go_wp2_with fail
      go_round
      case rel => exact ⟨k + 1, by go_num, by omega⟩
      case measure => simp [intOf]; omega
    · obtain ⟨z, hz⟩ : ∃ z, zs k = z := ⟨_, rfl⟩
      unfold okS at hok
      rw [hz] at hc hok
      clear hz
      by_cases z3 : z < 0
      · clear hok
        go_wp2_with fail
        go_ret
        exact ⟨rfl, rfl⟩
      · have z4 : 8191 < z := by omega
        clear hok
        go_wp2_with fail
        go_ret
        exact ⟨rfl, rfl⟩
theorem errV5 : errV 5 = .iface 24 (.int .i64 5) := rfl
theorem errV6 : errV 6 = .iface 24 (.int .i64 6) := rfl
set_option maxRecDepth 100000 in
set_option maxHeartbeats 2000000 in
theorem check_any (oa : Option Addr) (n cap : Nat) (A : Nat → Option Addr) (L C : Nat → Nat) (z : Nat → Nat → Int) (w : World) (hn : n ≤ 1000000) (hL : ∀ i, i < n → L i ≤ 9223372036854775807) (hR : NetR w oa n A L C z) : Calls Tryd.prog 39 #[.slice oa n cap] w fun e w' => e = .returned (errV (netE n L z)) ∧ w' = w := by
  have HR := Lib.hid hR; clear hR
  have HL := Lib.hid hL; clear hL
  by_cases h1 : n < 1
  · rw [netE_out (.inl h1), errV6]
    go_enter Tryd.func39, Tryd.ntmps39
    go_wp2_with fail
    go_ret
    exact ⟨rfl, rfl⟩
  · by_cases h2 : 6 < n
    · rw [netE_out (.inr h2), errV6]
      go_enter Tryd.func39, Tryd.ntmps39
      go_wp2_with fail
      go_ret
      exact ⟨rfl, rfl⟩
    · rw [netE_in (by omega) (by omega)]
      obtain ⟨a, rfl⟩ := HR.out.1 (by omega)
      obtain ⟨_, hrow⟩ := HR.out.2 a rfl
      have HROW := Lib.hid hrow
      clear hrow
      go_enter Tryd.func39, Tryd.ntmps39
      go_wp2_with fail
      go_loop [17] (fun c => ∃ k : Nat, c = .int .i64 (k : Int) ∧ k ≤ n ∧ Hid (∀ i, i < k → rowE n L z i = 0)) (fun c => n - (intOf c).toNat)
      case atStart => exact ⟨0, rfl, by omega, Lib.hid fun i hi => absurd hi (Nat.not_lt_zero i)⟩
      case round =>
        obtain ⟨k, rfl, hk, HK⟩ := hrel
        by_cases hlt : k < n
        · obtain ⟨hc, hA, hB⟩ := HROW.out k hlt
          have hLk := HL.out k hlt
          have HA := Lib.hid hA
          have HB := Lib.hid hB
          clear hA hB
          obtain ⟨l, hl⟩ : ∃ l, L k = l := ⟨_, rfl⟩
          rw [hl] at hc hLk
          by_cases hln : l = n
          · have hlb : ((l : Int) != (n : Int)) = false := by simp [hln]
            have HLN := Lib.hid (hl.trans hln)
            subst hln
            clear hlb
            have hlb : ((l : Int) != (l : Int)) = false := by simp
            obtain ⟨b, hb⟩ := HA.out (by rw [hl]; omega)
            rw [hb] at hc
            obtain ⟨_, hcell⟩ := HB.out b hb
            rw [hl] at hcell
            clear hl hb
            have HCELL := Lib.hid hcell
            clear hcell
            rcases row_ways l (z k) with hok | ⟨j, hj, hbad, _⟩
            · have HOK := Lib.hid hok
              clear hok
              go_wp2_with fail
              refine (mayA_yes b l _ (z k) _ hn HCELL.out HOK.out).mono ?_; rintro e w' ⟨rfl, rfl⟩
              go_wp2_with fail
              go_round
              case rel =>
                refine ⟨k + 1, by go_num, by omega, Lib.hid fun i hi => ?_⟩
                by_cases e : i = k
                · subst e; exact rowE_ok HLN.out HOK.out
                · exact HK.out i (by omega)
              case measure => simp [intOf]; omega
            · have HBAD := Lib.hid hbad
              clear hbad
              go_wp2_with fail
              refine (mayA_no b l _ j (z k) _ hn HCELL.out hj HBAD.out).mono ?_; rintro e w' ⟨rfl, rfl⟩
              go_wp2_with fail
              go_ret
              refine ⟨?_, rfl⟩
              have h1 := rowE_bad HLN.out hj HBAD.out
              rw [firstE_hit HK.out (by rw [h1]; decide) _ hlt, h1, errV1]
              rfl
          · have hlb : ((l : Int) != (n : Int)) = true := by simp; omega
            have HLN := Lib.hid (fun h : L k = n => hln (hl.symm.trans h))
            clear hl hln
            go_wp2_with fail
            go_ret
            refine ⟨?_, rfl⟩
            have h1 := rowE_len (z := z) HLN.out
            rw [firstE_hit HK.out (by rw [h1]; decide) _ hlt, h1, errV5]
            rfl
        · obtain rfl : k = n := by omega
          go_wp2_with fail
          go_ret
          rw [firstE_zero HK.out]
          exact ⟨rfl, rfl⟩
end Go.Proofs.YtpmppgmnnnlonaaDoor
