/- The program's answers on sets of ways: Back, Join, Count. -/
import Derived.Test.YtpmppgmnnnlonaaDoorSpanF
import Derived.Outline
namespace Go.Proofs.YtpmppgmnnnlonaaDoor
open Go.RowKit
/-- What is wrong with a set, with two; what Back and Join answer. -/
def bkE (s : Int) : Int := if 0 ≤ s ∧ s ≤ 8191 then 0 else 1
noncomputable def bkV (s : Int) : Int := if 0 ≤ s ∧ s ≤ 8191 then (backN s.toNat : Int) else 0
def jnE (p q : Int) : Int := if (0 ≤ p ∧ p ≤ 8191) ∧ (0 ≤ q ∧ q ≤ 8191) then 0 else 1
noncomputable def jnV (p q : Int) : Int := if (0 ≤ p ∧ p ≤ 8191) ∧ (0 ≤ q ∧ q ≤ 8191) then (joinN p.toNat q.toNat : Int) else 0
def TwoRet (v n : Int) (w : World) (e : Ending) (w' : World) : Prop := e = .returned (.tuple #[.int .i64 v, errV n]) ∧ Below w.heap.size w w'
def TwoRetT (v n : Int) (w : World) (e : Ending) (w' : World) : Prop := e = .returned (.tuple #[.int .i64 v, .int .i64 n]) ∧ Below w.heap.size w w'
/-- Ways that have been turned. -/
def BackP (s k : Nat) (v : Nat) : Prop := ∃ a : Nat, a < k ∧ a < 13 ∧ s.testBit a = true ∧ v + a = 12
theorem BackP.none {s : Nat} : ∀ v, v < 13 → ¬ BackP s 0 v := by
  rintro v _ ⟨a, h, _⟩
  omega
theorem back_skip {s o k : Nat} (h : Bits o (BackP s k)) (hs : s.testBit k = false) : Bits o (BackP s (k + 1)) := by
  refine h.congr fun v _ => ⟨fun ⟨a, h1, h2⟩ => ⟨a, by omega, h2⟩, fun ⟨a, h1, h2, h3, h4⟩ => ⟨a, ?_, h2, h3, h4⟩⟩
  by_cases e : a = k
  · subst e; rw [hs] at h3; cases h3
  · omega
theorem back_take {s o k : Nat} (h : Bits o (BackP s k)) (hk : k < 13) (hs : s.testBit k = true) : Bits (o ||| 2 ^ (12 - k)) (BackP s (k + 1)) := by
  refine (h.add (by omega)).congr fun v _ => ⟨?_, ?_⟩
  · rintro (⟨a, h1, h2⟩ | h)
    · exact ⟨a, by omega, h2⟩
    · exact ⟨k, by omega, hk, hs, by omega⟩
  · rintro ⟨a, h1, h2, h3, h4⟩
    by_cases e : a = k
    · exact .inr (by omega)
    · exact .inl ⟨a, by omega, h2, h3, h4⟩
theorem back_end {s o : Nat} (h : Bits o (BackP s 13)) : o = backN s := by
  refine (h.congr fun v hv => ⟨?_, ?_⟩ : Bits o fun v => s.testBit (12 - v) = true).setOf
  · rintro ⟨a, _, _, h3, h4⟩
    rw [show 12 - v = a by omega]; exact h3
  · intro h
    exact ⟨12 - v, by omega, by omega, h, by omega⟩
theorem join_end {s p q : Nat} (h : Bits s (JoinP p q 13 0)) : s = joinN p q := by
  refine (h.congr fun v hv => ⟨?_, ?_⟩ : Bits s fun v => ∃ a b : Nat, a < 13 ∧ b < 13 ∧ p.testBit a = true ∧ q.testBit b = true ∧ (Sp.tab a b).testBit v = true).setOf
  · rintro ⟨a, b, h1, h2, _, h4⟩
    exact ⟨a, b, h1, h2, h4⟩
  · rintro ⟨a, b, h1, h2, h4⟩
    exact ⟨a, b, h1, h2, by omega, h4⟩
theorem pow_cast (o k : Nat) (ho : o < 8192) (hk : k < 13) : bits .or .i64 (o : Int) (wrap64 (2 ^ (12 - k))) = ((o ||| 2 ^ (12 - k) : Nat) : Int) := by
  rw [wrap_pow (by omega), (set_add o _ ho (by omega)).1]
set_option maxHeartbeats 1000000 in
theorem back_any (s : Nat) (w : World) (hs : s < 8192) : Calls Tryd.prog 48 #[.int .i64 (s : Int)] w fun e w' => e = .returned (.int .i64 (backN s : Int)) ∧ w' = w := by
  go_enter Tryd.func48, Tryd.ntmps48
  go_wp2_with fail
  go_loop [3, 5] (fun o c => ∃ t k : Nat, o = .int .i64 (t : Int) ∧ c = .int .i64 (k : Int) ∧ k ≤ 13 ∧ Hid (Bits t (BackP s k))) (fun _ c => 13 - (intOf c).toNat)
  case atStart => exact ⟨0, 0, rfl, rfl, by omega, Lib.hid (Bits.none BackP.none)⟩
  case round =>
    obtain ⟨t, k, rfl, rfl, hk, HB⟩ := hrel
    by_cases hlt : k < 13
    · have hFd : decide ((k : Int) < 13) = true := by simp; omega
      cases hb : s.testBit k
      · go_wp2_with fail
        refine (has_any s k _ hs hlt).mono ?_; rintro e w' ⟨rfl, rfl⟩
        rw [hb]
        have HS := Lib.hid hb; clear hb
        go_wp2_with fail
        go_round
        case rel => exact ⟨t, k + 1, rfl, by go_num, by omega, Lib.hid (back_skip HB.out HS.out)⟩
        case measure => simp [intOf]; omega
      · go_wp2_with fail
        refine (has_any s k _ hs hlt).mono ?_; rintro e w' ⟨rfl, rfl⟩
        rw [hb]
        have HS := Lib.hid hb; clear hb
        have e1 : (0 : Int) ≤ 12 - (k : Int) := by omega
        have e2 : 12 - (k : Int) ≤ 12 := by omega
        have e3 : (12 - (k : Int)).toNat = 12 - k := by omega
        go_wp2_with fail
        go_round
        case rel => exact ⟨t ||| 2 ^ (12 - k), k + 1, by first | rw [pow_cast t k HB.out.1 hlt] | rw [e3, pow_cast t k HB.out.1 hlt], by go_num, by omega, Lib.hid (back_take HB.out hlt HS.out)⟩
        case measure => simp [intOf]; omega
    · go_wp2_with fail
      go_ret
      obtain rfl : k = 13 := by omega
      exact ⟨ret1 (by rw [back_end HB.out]), rfl⟩
theorem errV1 : errV 1 = .iface 24 (.int .i64 1) := rfl
set_option maxHeartbeats 1000000 in
theorem pback_any (s : Int) (w : World) : Calls Tryd.prog 31 #[.int .i64 s] w (TwoRet (bkV s) (bkE s) w) := by
  unfold TwoRet
  by_cases h : 0 ≤ s ∧ s ≤ 8191
  · obtain ⟨n, rfl⟩ := Int.eq_ofNat_of_zero_le h.1
    have hn : n < 8192 := by omega
    rw [show bkV (n : Int) = (backN n : Int) by unfold bkV; rw [if_pos h]; rfl, show bkE (n : Int) = 0 by unfold bkE; rw [if_pos h], errV_nil]
    clear h
    go_enter Tryd.func31, Tryd.ntmps31
    go_wp2_with fail
    refine (may_yes w.heap.size 0 1 1 (fun _ => (n : Int)) _ (by omega) (fun i hi => by obtain rfl : i = 0 := (by omega); simp) (fun i _ => ⟨by omega, by omega⟩)).mono ?_; rintro e w' ⟨rfl, rfl⟩
    go_wp2_with fail
    refine (back_any n _ hn).mono ?_; rintro e w' ⟨rfl, rfl⟩
    go_wp2_with fail
    go_ret2
    exact ⟨rfl, (Below.refl _ _).alloc (Nat.le_refl _) _⟩
  · rw [show bkV s = 0 by unfold bkV; rw [if_neg h], show bkE s = 1 by unfold bkE; rw [if_neg h], errV1]
    have H := Lib.hid h; clear h
    go_enter Tryd.func31, Tryd.ntmps31
    go_wp2_with fail
    refine (may_no w.heap.size 0 1 1 0 (fun _ => s) _ (by omega) (fun i hi => by obtain rfl : i = 0 := (by omega); simp) (by omega) H.out).mono ?_; rintro e w' ⟨rfl, rfl⟩
    go_wp2_with fail
    go_ret2
    exact ⟨rfl, (Below.refl _ _).alloc (Nat.le_refl _) _⟩
set_option maxHeartbeats 1000000 in
theorem pjoin_any (p q : Int) (w : World) : Calls Tryd.prog 29 #[.int .i64 p, .int .i64 q] w (TwoRet (jnV p q) (jnE p q) w) := by
  unfold TwoRet
  by_cases h : (0 ≤ p ∧ p ≤ 8191) ∧ (0 ≤ q ∧ q ≤ 8191)
  · obtain ⟨n, rfl⟩ := Int.eq_ofNat_of_zero_le h.1.1
    obtain ⟨m, rfl⟩ := Int.eq_ofNat_of_zero_le h.2.1
    have hn : n < 8192 := by omega
    have hm : m < 8192 := by omega
    rw [show jnV (n : Int) (m : Int) = (joinN n m : Int) by unfold jnV; rw [if_pos h]; rfl, show jnE (n : Int) (m : Int) = 0 by unfold jnE; rw [if_pos h], errV_nil]
    clear h
    go_enter Tryd.func29, Tryd.ntmps29
    go_wp2_with fail
    refine (may_yes w.heap.size 0 2 2 (fun i => if i = 0 then (n : Int) else (m : Int)) _ (by omega) (fun i hi => by rcases (show i = 0 ∨ i = 1 by omega) with rfl | rfl <;> simp) (fun i _ => by unfold okS; split <;> exact ⟨by omega, by omega⟩)).mono ?_; rintro e w' ⟨rfl, rfl⟩
    go_wp2_with fail
    refine (newTable_any _).mono ?_; rintro e w1 ⟨B, rfl, hT, hb1⟩
    have HT := Lib.hid hT; clear hT
    have HB := Lib.hid (offA hb1); clear hb1
    go_wp2_with fail
    refine (tjoin_any B n m _ hn hm HT.out).mono ?_; rintro e w' ⟨o, rfl, ho, rfl⟩
    obtain rfl := join_end ho
    clear ho
    go_wp2_with fail
    go_ret2
    exact ⟨rfl, HB.out⟩
  · rw [show jnV p q = 0 by unfold jnV; rw [if_neg h], show jnE p q = 1 by unfold jnE; rw [if_neg h], errV1]
    have H := Lib.hid h; clear h
    go_enter Tryd.func29, Tryd.ntmps29
    go_wp2_with fail
    have hex : ∃ j : Nat, j < 2 ∧ ¬ okS (if j = 0 then p else q) := by
      by_cases h1 : 0 ≤ p ∧ p ≤ 8191
      · exact ⟨1, by omega, fun h2 => H.out ⟨h1, h2⟩⟩
      · exact ⟨0, by omega, h1⟩
    obtain ⟨j, hj, hz⟩ := hex
    refine (may_no w.heap.size 0 2 2 j (fun i => if i = 0 then p else q) _ (by omega) (fun i hi => by rcases (show i = 0 ∨ i = 1 by omega) with rfl | rfl <;> simp) hj hz).mono ?_; rintro e w' ⟨rfl, rfl⟩
    clear hz
    go_wp2_with fail
    go_ret2
    exact ⟨rfl, (Below.refl _ _).alloc (Nat.le_refl _) _⟩
theorem shr_and (t : Nat) (k : Nat) (m : Nat) (ht : t ≤ 100000) (hm : m < 2 ^ 63) : bits .and .u64 ((t : Int) / 2 ^ k) (m : Int) = ((t / 2 ^ k &&& m : Nat) : Int) := by
  rw [show ((t : Int) / 2 ^ k) = ((t / 2 ^ k : Nat) : Int) by push_cast; rfl]
  exact and_u64 _ _ (by have := Nat.div_le_self t (2 ^ k); omega) hm
theorem and_u64c (a b : Nat) (m : Int) (hm : m = (b : Int)) (ha : a < 2 ^ 63) (hb : b < 2 ^ 63) : bits .and .u64 (a : Int) m = ((a &&& b : Nat) : Int) := by rw [hm]; exact and_u64 a b ha hb
def uA (x : Int) : Int := IntKind.u64.wrap (bits .and .u64 (x / 2) 6148914691236517205 + bits .and .u64 x 6148914691236517205)
def uB (x : Int) : Int := IntKind.u64.wrap (bits .and .u64 (x / 4) 3689348814741910323 + bits .and .u64 x 3689348814741910323)
def uC (x : Int) : Int := bits .and .u64 (IntKind.u64.wrap (x / 16 + x)) 1085102592571150095
def uD (x : Int) : Int := IntKind.u64.wrap (x + x / 256)
def uE (x : Int) : Int := IntKind.u64.wrap (x + x / 65536)
def uF (x : Int) : Int := IntKind.u64.wrap (x + x / 4294967296)
theorem wrapU (t : Nat) (h : t ≤ 1000000000) : IntKind.u64.wrap (t : Int) = t := wraps_u64 _ (by omega) (by omega)
theorem uA_eq (t : Nat) (h : t ≤ 100000) (h2 : swA t ≤ 100000) : uA (t : Int) = (swA t : Int) := by
  unfold uA swA
  have e1 : ((t : Int) / 2) = ((t / 2 : Nat) : Int) := by omega
  rw [e1, and_u64c (t / 2) 6148914691236517205 6148914691236517205 rfl (by omega) (by decide), and_u64c t 6148914691236517205 6148914691236517205 rfl (by omega) (by decide), ← Int.natCast_add]
  exact wrapU _ (by unfold swA at h2; omega)
theorem uB_eq (t : Nat) (h : t ≤ 100000) (h2 : swB t ≤ 100000) : uB (t : Int) = (swB t : Int) := by
  unfold uB swB
  have e1 : ((t : Int) / 4) = ((t / 4 : Nat) : Int) := by omega
  rw [e1, and_u64c (t / 4) 3689348814741910323 3689348814741910323 rfl (by omega) (by decide), and_u64c t 3689348814741910323 3689348814741910323 rfl (by omega) (by decide), ← Int.natCast_add]
  exact wrapU _ (by unfold swB at h2; omega)
theorem uC_eq (t : Nat) (h : t ≤ 100000) : uC (t : Int) = (swC t : Int) := by
  unfold uC swC
  have e1 : ((t : Int) / 16 + t) = ((t / 16 + t : Nat) : Int) := by omega
  rw [e1, wrapU _ (by omega), and_u64c (t / 16 + t) 1085102592571150095 1085102592571150095 rfl (by omega) (by decide)]
theorem uD_eq (t : Nat) (h : t ≤ 100000) : uD (t : Int) = (swD t : Int) := by
  unfold uD swD
  rw [show ((t : Int) + t / 256) = ((t + t / 256 : Nat) : Int) by omega, wrapU _ (by omega)]
theorem uE_eq (t : Nat) (h : t ≤ 100000) : uE (t : Int) = (swE t : Int) := by
  unfold uE swE
  rw [show ((t : Int) + t / 65536) = ((t + t / 65536 : Nat) : Int) by omega, wrapU _ (by omega)]
theorem uF_eq (t : Nat) (h : t ≤ 100000) : uF (t : Int) = (swF t : Int) := by
  unfold uF swF
  rw [show ((t : Int) + t / 4294967296) = ((t + t / 4294967296 : Nat) : Int) by omega, wrapU _ (by omega)]
theorem sw_int (t : Nat) (h : t < 8192) : bits .and .i64 (wrap64 (uF (uE (uD (uC (uB (uA (t : Int)))))))) 127 = (cntN 13 t : Int) := by
  obtain ⟨a, b, c, d, e, f, g⟩ := sw_at t h
  rw [uA_eq t (by omega) (by omega), uB_eq _ (by omega) (by omega), uC_eq _ (by omega), uD_eq _ (by omega), uE_eq _ (by omega), uF_eq _ (by omega), IntWalk.wrap64_in _ ⟨by omega, by omega⟩, ← a]
  exact (bits_nat .i64 62 (by decide) wraps_i64 _ 127 (by omega) (by decide)).1
set_option maxRecDepth 100000 in
set_option maxHeartbeats 1000000 in
theorem ones64_any (t : Nat) (w : World) (ht : t < 8192) : Calls Tryd.prog 59 #[.int .u64 (t : Int)] w fun e w' => e = .returned (.int .i64 (cntN 13 t : Int)) ∧ w' = w := by
  go_enter Tryd.func59, Tryd.ntmps59
  go_wp2_with fail
  go_ret
  refine ⟨?_, rfl⟩
  show Ending.returned (.int .i64 (bits .and .i64 (wrap64 (uF (uE (uD (uC (uB (uA (t : Int)))))))) 127)) = _
  rw [sw_int t ht]
end Go.Proofs.YtpmppgmnnnlonaaDoor
