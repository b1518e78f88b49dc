/- The document's PeriodText. Printed by a program of mine. -/
import Derived.Test.YtkfpnlenmdlmjaaDoorPerC
namespace Go.Proofs.YtkfpnlenmdlmjaaDoor
open Go.RowKit Go.Shelf Per
set_option maxRecDepth 100000 in
set_option maxHeartbeats 2000000 in
theorem psmall_any (a b c d e : Int) (w : World) : Calls Tryd.prog 10 #[.agg #[.int .i64 a, .int .i64 b, .int .i64 c, .int .i64 d, .int .i64 e]] w fun ev w' => ev = .returned (.bool (!bigB (five a b c d e) 5)) ∧ Below w.heap.size w w' := by
  obtain ⟨V, hV⟩ : ∃ V, five a b c d e = V := ⟨_, rfl⟩
  have HV : Hid (five a b c d e = V) := Lib.hid hV
  rw [hV]
  clear hV
  go_enter Tryd.func10, Tryd.ntmps10
  go_wp2_with fail
  have hc : Hid (∀ i, i < 5 → ((w.alloc (.cells #[.int .i64 a, .int .i64 b, .int .i64 c, .int .i64 d, .int .i64 e] 23)).alloc (.cells #[.int .i64 a, .int .i64 b, .int .i64 c, .int .i64 d, .int .i64 e] 3)).cell? ⟨w.heap.size + 1, i, none⟩ = some (.int .i64 (V i))) :=
    Lib.hid fun i hi => by
      have := five_cells a b c d e (w.alloc (.cells #[.int .i64 a, .int .i64 b, .int .i64 c, .int .i64 d, .int .i64 e] 23)) 3 i hi
      rw [World.size_alloc, HV.out] at this
      exact this
  go_loop [17] (fun i => ∃ k : Nat, k ≤ 5 ∧ i = .int .i64 k ∧ Hid (bigB V k = false)) (fun i => 5 - (intOf i).toNat)
  case atStart => exact ⟨0, by omega, rfl, Lib.hid rfl⟩
  case round =>
    obtain ⟨k, hk, rfl, HS⟩ := hrel
    by_cases hlt : k < 5
    · have hcell := hc.out k hlt
      have hbg : Hid (bigB V (k + 1) = (bigB V k || (decide (V k < -1000000000000) || decide (1000000000000 < V k)))) := Lib.hid (bigB_succ V k)
      obtain ⟨F, hF⟩ : ∃ F, V k = F := ⟨_, rfl⟩
      rw [hF] at hcell hbg
      have HF := Lib.hid hF; clear hF
      rcases (show F < -1000000000000 ∨ (¬ F < -1000000000000 ∧ 1000000000000 < F) ∨ (-1000000000000 ≤ F ∧ F ≤ 1000000000000) by omega) with g | ⟨g1, g⟩ | ⟨g1, g2⟩
      · have HB : Hid (bigB V 5 = true) := Lib.hid (bigB_of hlt (.inl (by rw [HF.out]; exact g)))
        go_wp2_with fail
        go_ret
        exact ⟨by rw [HB.out]; rfl, ((Below.refl _ _).alloc (by omega) _).alloc (by simp) _⟩
      · have HB : Hid (bigB V 5 = true) := Lib.hid (bigB_of hlt (.inr (by rw [HF.out]; exact g)))
        go_wp2_with fail
        go_ret
        exact ⟨by rw [HB.out]; rfl, ((Below.refl _ _).alloc (by omega) _).alloc (by simp) _⟩
      · have HS2 : Hid (bigB V (k + 1) = false) := Lib.hid (by rw [hbg.out, HS.out, decide_eq_false (by omega), decide_eq_false (by omega)]; rfl)
        go_wp2_with fail
        go_round
        case rel => exact ⟨k + 1, by omega, by go_num, HS2⟩
        case measure => simp [intOf]; omega
    · obtain rfl : k = 5 := by omega
      go_wp2_with fail
      go_ret
      exact ⟨by rw [HS.out]; rfl, ((Below.refl _ _).alloc (by omega) _).alloc (by simp) _⟩
/-- Five numbers that lie in a row. -/
def Row5 (B : Nat) (v : F) (w : World) : Prop := B < w.heap.size ∧ ∀ i, i < 5 → w.cell? ⟨B, i, none⟩ = some (.int .i64 (v i))
theorem Row5.call {B : Nat} {v : F} {w w' : World} (h : Row5 B v w) (hb : Below w.heap.size w w') : Row5 B v w' := ⟨Nat.lt_of_lt_of_le h.1 hb.size, fun i hi => (hb.cell (p := ⟨B, i, none⟩) h.1).trans (h.2 i hi)⟩
/-- The sign so far. -/
def sgF (v : F) (k : Nat) : Int := if upB v k then 1 else if dnB v k then -1 else 0
/-- The document's parts, so many. -/
def uni : Nat → UInt8 := fun i => match i with | 0 => 89 | 1 => 77 | 2 => 87 | _ => 68
def tun : Nat → UInt8 := fun i => match i with | 0 => 72 | 1 => 77 | _ => 83
def tval (n : Int) : Nat → Int := fun i => match i with | 0 => n / 3600 | 1 => n / 60 % 60 | _ => n % 60
def sumL (v : Nat → Int) (u : Nat → UInt8) : Nat → List UInt8
  | 0 => []
  | k + 1 => sumL v u k ++ partL (v k) (u k)
theorem head_sum (v : F) : headL v = [80] ++ sumL v uni 4 := by simp [headL, sumL, uni]
theorem tail_sum {n : Int} (h : 0 < n) : tailL n = [84] ++ sumL (tval n) tun 3 := by rw [tailL_yes h]; simp [sumL, tun, tval]
/-- Texts that lie in a row. -/
def UniR (B n : Nat) (u : Nat → UInt8) (w : World) : Prop := B < w.heap.size ∧ ∀ i, i < n → w.cell? ⟨B, i, none⟩ = some (.string ⟨#[u i]⟩)
theorem UniR.call {B n : Nat} {u : Nat → UInt8} {w w' : World} (h : UniR B n u w) (hb : Below w.heap.size w w') : UniR B n u w' := ⟨Nat.lt_of_lt_of_le h.1 hb.size, fun i hi => (hb.cell (p := ⟨B, i, none⟩) h.1).trans (h.2 i hi)⟩
theorem uni_new (w : World) (t : TypeId) : UniR w.heap.size 4 uni (w.alloc (.cells #[.string ⟨#[89]⟩, .string ⟨#[77]⟩, .string ⟨#[87]⟩, .string ⟨#[68]⟩] t)) := by
  refine ⟨by simp, ?_⟩
  intro i hi
  match i, hi with
  | 0, _ => simp [uni]
  | 1, _ => simp [uni]
  | 2, _ => simp [uni]
  | 3, _ => simp [uni]
theorem tun_new (w : World) (t : TypeId) : UniR w.heap.size 3 tun (w.alloc (.cells #[.string ⟨#[72]⟩, .string ⟨#[77]⟩, .string ⟨#[83]⟩] t)) := by
  refine ⟨by simp, ?_⟩
  intro i hi
  match i, hi with
  | 0, _ => simp [tun]
  | 1, _ => simp [tun]
  | 2, _ => simp [tun]
theorem three_cells (n : Int) (w : World) (t : TypeId) : ∀ i, i < 3 → (w.alloc (.cells #[.int .i64 (n / 3600), .int .i64 (n / 60 % 60), .int .i64 (n % 60)] t)).cell? ⟨w.heap.size, i, none⟩ = some (.int .i64 (tval n i)) := by
  intro i hi
  match i, hi with
  | 0, _ => simp [tval]
  | 1, _ => simp [tval]
  | 2, _ => simp [tval]
theorem tval_bd {n : Int} (h : 0 ≤ n) (h2 : n ≤ 1000000000000) (k : Nat) : 0 ≤ tval n k ∧ tval n k ≤ 1000000000000 := by
  unfold tval
  split <;> omega
/-- What holds while the text grows. -/
def GrowSt (w : World) (B1 B2 : Nat) (V : F) (wr : World) : Prop := Below w.heap.size w wr ∧ Row5 B1 V wr ∧ UniR B2 4 uni wr ∧ Pow wr
theorem GrowSt.call {w : World} {B1 B2 : Nat} {V : F} {w1 w2 : World} (h : GrowSt w B1 B2 V w1) (hb : Below w1.heap.size w1 w2) : GrowSt w B1 B2 V w2 := ⟨thenB h.1 hb, h.2.1.call hb, h.2.2.1.call hb, h.2.2.2.call hb⟩
def GrowT (w : World) (B3 : Nat) (wr : World) : Prop := Below w.heap.size w wr ∧ UniR B3 3 tun wr ∧ Pow wr
theorem GrowT.call {w : World} {B3 : Nat} {w1 w2 : World} (h : GrowT w B3 w1) (hb : Below w1.heap.size w1 w2) : GrowT w B3 w2 := ⟨thenB h.1 hb, h.2.1.call hb, h.2.2.call hb⟩
theorem zero_cells (w : World) (t : TypeId) : ∀ i, i < 3 → (w.alloc (.cells #[.int .i64 0, .int .i64 0, .int .i64 0] t)).cell? ⟨w.heap.size, i, none⟩ = some (.int .i64 0) := by
  intro i hi
  match i, hi with
  | 0, _ => simp
  | 1, _ => simp
  | 2, _ => simp
def pos (v : F) : F := fun i => 1 * v i
theorem pos_is (v : F) : pos v = v := funext fun _ => Int.one_mul _
theorem upB_mono {v : F} {k n : Nat} (h : k < n) (hb : upB v k = true) : upB v n = true := by
  unfold upB at *; rw [List.any_eq_true] at *
  obtain ⟨i, hi, hv⟩ := hb
  exact ⟨i, List.mem_range.2 (by have := List.mem_range.1 hi; omega), hv⟩
theorem dnB_mono {v : F} {k n : Nat} (h : k < n) (hb : dnB v k = true) : dnB v n = true := by
  unfold dnB at *; rw [List.any_eq_true] at *
  obtain ⟨i, hi, hv⟩ := hb
  exact ⟨i, List.mem_range.2 (by have := List.mem_range.1 hi; omega), hv⟩
set_option maxRecDepth 100000 in
set_option maxHeartbeats 8000000 in
theorem rptext_any (a b c d e : Int) (w : World) (hp : Pow w) :
    Calls Tryd.prog 5 #[.agg #[.int .i64 a, .int .i64 b, .int .i64 c, .int .i64 d, .int .i64 e]] w (TxPost (textL (five a b c d e)) (.int .i64 (textE (five a b c d e))) w) := by
  have CS : Hid (∀ w0, Calls Tryd.prog 10 #[.agg #[.int .i64 a, .int .i64 b, .int .i64 c, .int .i64 d, .int .i64 e]] w0 fun ev w' => ev = .returned (.bool (!bigB (five a b c d e) 5)) ∧ Below w0.heap.size w0 w') := Lib.hid fun w0 => psmall_any a b c d e w0
  obtain ⟨V, hV⟩ : ∃ V, five a b c d e = V := ⟨_, rfl⟩
  have HV : Hid (five a b c d e = V) := Lib.hid hV
  have HPW := Lib.hid hp
  rw [hV] at CS ⊢
  clear hV hp
  have HA0 := Lib.hid ((Below.refl w.heap.size w).alloc (Nat.le_refl _) (.cells #[.int .i64 a, .int .i64 b, .int .i64 c, .int .i64 d, .int .i64 e] 23))
  have HA1 : Hid (∀ i, i < 5 → (w.alloc (.cells #[.int .i64 a, .int .i64 b, .int .i64 c, .int .i64 d, .int .i64 e] 23)).cell? ⟨w.heap.size, i, none⟩ = some (.int .i64 (five a b c d e i))) := Lib.hid (five_cells a b c d e w _)
  rcases hbg : bigB V 5 with _ | _
  · have CS2 : Hid (∀ w0, Calls Tryd.prog 10 #[.agg #[.int .i64 a, .int .i64 b, .int .i64 c, .int .i64 d, .int .i64 e]] w0 fun ev w' => ev = .returned (.bool true) ∧ Below w0.heap.size w0 w') := Lib.hid fun w0 => by have := CS.out w0; rw [hbg] at this; exact this
    have HBG := Lib.hid hbg
    clear CS hbg
    go_enter Tryd.func5, Tryd.ntmps5
    go_wp2_with (go_at_call 10; (with_reducible refine (CS2.out _).mono ?_); rintro ev w1 ⟨rfl, hb1⟩; have HB1 := Lib.hid (thenB HA0.out hb1); have hz1 : w.heap.size < w1.heap.size := (by have := hb1.size; simp at this; omega); have c0 := (hb1.cell (p := ⟨w.heap.size, 0, none⟩) (by simp)).trans (show _ = some (.int .i64 a) from HA1.out 0 (by omega)); have c1 := (hb1.cell (p := ⟨w.heap.size, 1, none⟩) (by simp)).trans (show _ = some (.int .i64 b) from HA1.out 1 (by omega)); have c2 := (hb1.cell (p := ⟨w.heap.size, 2, none⟩) (by simp)).trans (show _ = some (.int .i64 c) from HA1.out 2 (by omega)); have c3 := (hb1.cell (p := ⟨w.heap.size, 3, none⟩) (by simp)).trans (show _ = some (.int .i64 d) from HA1.out 3 (by omega)); have c4 := (hb1.cell (p := ⟨w.heap.size, 4, none⟩) (by simp)).trans (show _ = some (.int .i64 e) from HA1.out 4 (by omega)); clear hb1)
    have hc : Hid (∀ i, i < 5 → (w1.alloc (.cells #[.int .i64 a, .int .i64 b, .int .i64 c, .int .i64 d, .int .i64 e] 3)).cell? ⟨w1.heap.size, i, none⟩ = some (.int .i64 (V i))) := Lib.hid (by rw [← HV.out]; exact five_cells a b c d e w1 _)
    go_loop [5, 6] (fun g i => ∃ k : Nat, k ≤ 5 ∧ i = .int .i64 k ∧ g = .int .i64 (sgF V k) ∧ Hid (¬ (upB V k = true ∧ dnB V k = true))) (fun _ i => 5 - (intOf i).toNat)
    case atStart => exact ⟨0, by omega, rfl, rfl, Lib.hid (by simp [upB])⟩
    case round =>
      obtain ⟨k, hk, rfl, rfl, HS⟩ := hrel
      by_cases hlt : k < 5
      · have hcell := hc.out k hlt
        have hup : Hid (upB V (k + 1) = (upB V k || decide (0 < V k))) := Lib.hid (upB_succ V k)
        have hdn : Hid (dnB V (k + 1) = (dnB V k || decide (V k < 0))) := Lib.hid (dnB_succ V k)
        obtain ⟨G, hG⟩ : ∃ G, sgF V k = G := ⟨_, rfl⟩
        rw [hG]
        unfold sgF at hG
        obtain ⟨F, hF⟩ : ∃ F, V k = F := ⟨_, rfl⟩
        rw [hF] at hcell hup hdn
        have HF := Lib.hid hF; clear hF
        have HL5 := Lib.hid hlt
        rcases hu : upB V k with _ | _ <;> rcases hx : dnB V k with _ | _
        · have hG2 : G = 0 := by rw [← hG, hu, hx]; rfl
          subst hG2
          rw [hu] at hup
          rw [hx] at hdn
          clear hG
          rcases (show F < 0 ∨ F = 0 ∨ 0 < F by omega) with s | s | s
          · have d1 : decide (0 < F) = false := decide_eq_false (by omega)
            have d2 : decide (F < 0) = true := decide_eq_true (by omega)
            have e1 : upB V (k + 1) = false := by rw [hup.out]; simp; omega
            have e2 : dnB V (k + 1) = true := by rw [hdn.out]; simp [s]
            have HG : Hid (sgF V (k + 1) = -1) := Lib.hid (by unfold sgF; rw [e1, e2]; rfl)
            have HN : Hid (¬ (upB V (k + 1) = true ∧ dnB V (k + 1) = true)) := Lib.hid (by rw [e1, e2]; decide)
            clear hup hdn hu hx e1 e2
            go_wp2_with fail
            go_round
            case rel => exact ⟨k + 1, by omega, by go_num, by rw [HG.out], HN⟩
            case measure => simp [intOf]; omega
          · subst s
            have e1 : upB V (k + 1) = false := by rw [hup.out]; simp
            have e2 : dnB V (k + 1) = false := by rw [hdn.out]; simp
            have HG : Hid (sgF V (k + 1) = 0) := Lib.hid (by unfold sgF; rw [e1, e2]; rfl)
            have HN : Hid (¬ (upB V (k + 1) = true ∧ dnB V (k + 1) = true)) := Lib.hid (by rw [e1, e2]; decide)
            clear hup hdn hu hx e1 e2
            go_wp2_with fail
            go_round
            case rel => exact ⟨k + 1, by omega, by go_num, by rw [HG.out], HN⟩
            case measure => simp [intOf]; omega
          · have d1 : decide (0 < F) = true := decide_eq_true (by omega)
            have d2 : decide (F < 0) = false := decide_eq_false (by omega)
            have e1 : upB V (k + 1) = true := by rw [hup.out]; simp [s]
            have e2 : dnB V (k + 1) = false := by rw [hdn.out]; simp; omega
            have HG : Hid (sgF V (k + 1) = 1) := Lib.hid (by unfold sgF; rw [e1, e2]; rfl)
            have HN : Hid (¬ (upB V (k + 1) = true ∧ dnB V (k + 1) = true)) := Lib.hid (by rw [e1, e2]; decide)
            clear hup hdn hu hx e1 e2
            go_wp2_with fail
            go_round
            case rel => exact ⟨k + 1, by omega, by go_num, by rw [HG.out], HN⟩
            case measure => simp [intOf]; omega
        · have hG2 : G = -1 := by rw [← hG, hu, hx]; rfl
          subst hG2
          rw [hu] at hup
          rw [hx] at hdn
          clear hG
          rcases (show F < 0 ∨ F = 0 ∨ 0 < F by omega) with s | s | s
          · have d1 : decide (0 < F) = false := decide_eq_false (by omega)
            have d2 : decide (F < 0) = true := decide_eq_true (by omega)
            have e1 : upB V (k + 1) = false := by rw [hup.out]; simp; omega
            have e2 : dnB V (k + 1) = true := by rw [hdn.out]; simp [s]
            have HG : Hid (sgF V (k + 1) = -1) := Lib.hid (by unfold sgF; rw [e1, e2]; rfl)
            have HN : Hid (¬ (upB V (k + 1) = true ∧ dnB V (k + 1) = true)) := Lib.hid (by rw [e1, e2]; decide)
            clear hup hdn hu hx e1 e2
            go_wp2_with fail
            go_round
            case rel => exact ⟨k + 1, by omega, by go_num, by rw [HG.out], HN⟩
            case measure => simp [intOf]; omega
          · subst s
            have e1 : upB V (k + 1) = false := by rw [hup.out]; simp
            have e2 : dnB V (k + 1) = true := by rw [hdn.out]; simp
            have HG : Hid (sgF V (k + 1) = -1) := Lib.hid (by unfold sgF; rw [e1, e2]; rfl)
            have HN : Hid (¬ (upB V (k + 1) = true ∧ dnB V (k + 1) = true)) := Lib.hid (by rw [e1, e2]; decide)
            clear hup hdn hu hx e1 e2
            go_wp2_with fail
            go_round
            case rel => exact ⟨k + 1, by omega, by go_num, by rw [HG.out], HN⟩
            case measure => simp [intOf]; omega
          · have d1 : decide (0 < F) = true := decide_eq_true (by omega)
            have d2 : decide (F < 0) = false := decide_eq_false (by omega)
            have HB := Lib.hid (textE_un HBG.out (upB_of HL5.out (by rw [HF.out]; exact s)) (dnB_mono HL5.out hx))
            clear hup hdn hu hx
            go_wp2_with fail
            go_ret2
            exact ⟨by rw [HB.out.1, HB.out.2]; rfl, HB1.out.alloc (by omega) _⟩
        · have hG2 : G = 1 := by rw [← hG, hu, hx]; rfl
          subst hG2
          rw [hu] at hup
          rw [hx] at hdn
          clear hG
          rcases (show F < 0 ∨ F = 0 ∨ 0 < F by omega) with s | s | s
          · have d1 : decide (0 < F) = false := decide_eq_false (by omega)
            have d2 : decide (F < 0) = true := decide_eq_true (by omega)
            have HB := Lib.hid (textE_un HBG.out (upB_mono HL5.out hu) (dnB_of HL5.out (by rw [HF.out]; exact s)))
            clear hup hdn hu hx
            go_wp2_with fail
            go_ret2
            exact ⟨by rw [HB.out.1, HB.out.2]; rfl, HB1.out.alloc (by omega) _⟩
          · subst s
            have e1 : upB V (k + 1) = true := by rw [hup.out]; simp
            have e2 : dnB V (k + 1) = false := by rw [hdn.out]; simp
            have HG : Hid (sgF V (k + 1) = 1) := Lib.hid (by unfold sgF; rw [e1, e2]; rfl)
            have HN : Hid (¬ (upB V (k + 1) = true ∧ dnB V (k + 1) = true)) := Lib.hid (by rw [e1, e2]; decide)
            clear hup hdn hu hx e1 e2
            go_wp2_with fail
            go_round
            case rel => exact ⟨k + 1, by omega, by go_num, by rw [HG.out], HN⟩
            case measure => simp [intOf]; omega
          · have d1 : decide (0 < F) = true := decide_eq_true (by omega)
            have d2 : decide (F < 0) = false := decide_eq_false (by omega)
            have e1 : upB V (k + 1) = true := by rw [hup.out]; simp [s]
            have e2 : dnB V (k + 1) = false := by rw [hdn.out]; simp; omega
            have HG : Hid (sgF V (k + 1) = 1) := Lib.hid (by unfold sgF; rw [e1, e2]; rfl)
            have HN : Hid (¬ (upB V (k + 1) = true ∧ dnB V (k + 1) = true)) := Lib.hid (by rw [e1, e2]; decide)
            clear hup hdn hu hx e1 e2
            go_wp2_with fail
            go_round
            case rel => exact ⟨k + 1, by omega, by go_num, by rw [HG.out], HN⟩
            case measure => simp [intOf]; omega
        · exact absurd ⟨hu, hx⟩ HS.out
      · obtain rfl : k = 5 := by omega
        clear hlt hk
        rcases hu : upB V 5 with _ | _
        · rcases hx : dnB V 5 with _ | _
          · have HT : Hid (textE V = 0 ∧ textL V = [80, 84, 48, 83]) := Lib.hid (by have q := textE_ok HBG.out HS.out; exact ⟨q.1, q.2.trans (textS_zero hx hu)⟩)
            have hsg : sgF V 5 = 0 := by unfold sgF; rw [hu, hx]; rfl
            rw [hsg]
            clear hsg hu hx HS
            go_wp2_with fail
            go_ret2
            exact ⟨by rw [HT.out.1, HT.out.2]; rfl, HB1.out.alloc (by omega) _⟩
          · have HT : Hid (textE V = 0 ∧ textL V = [45, 80] ++ sumL (neg V) uni 4 ++ tailL (neg V 4)) := Lib.hid (by have q := textE_ok HBG.out HS.out; exact ⟨q.1, q.2.trans (by rw [textS_dn hx, head_sum]; simp [neg])⟩)
            have hsg : sgF V 5 = -1 := by unfold sgF; rw [hu, hx]; rfl
            rw [hsg]
            have HN : Hid (∀ i, i < 5 → 0 ≤ (neg V) i ∧ (neg V) i ≤ 1000000000000 ∧ (V i ≠ 0 → 0 < (neg V) i) ∧ (V i = 0 → (neg V) i = 0) ∧ wrap64 (-1 * V i) = (neg V) i ∧ wrap64 (-V i) = (neg V) i) := Lib.hid fun i hi => by
              have q1 := bigB_no HBG.out hi
              have q2 := upB_no hu hi
              exact ⟨by unfold neg; omega, by unfold neg; omega, fun h => by unfold neg; omega, fun h => by unfold neg; omega, by rw [show -1 * V i = - V i by omega]; exact IntWalk.wrap64_in (-V i) (by omega), IntWalk.wrap64_in (-V i) (by omega)⟩
            obtain ⟨N, hN⟩ : ∃ N, neg V = N := ⟨_, rfl⟩
            rw [hN] at HT HN
            clear hu hx hsg hN HS
            have HG0 : Hid (GrowSt w w1.heap.size (w1.heap.size + 1) V ((w1.alloc (.cells #[.int .i64 a, .int .i64 b, .int .i64 c, .int .i64 d, .int .i64 e] 3)).alloc (.cells #[.string ⟨#[89]⟩, .string ⟨#[77]⟩, .string ⟨#[87]⟩, .string ⟨#[68]⟩] 9))) := Lib.hid ⟨(HB1.out.alloc (by omega) _).alloc (by simp; omega) _, Row5.call ⟨by simp, hc.out⟩ ((Below.refl _ _).alloc (Nat.le_refl _) _), (by have q := uni_new (w1.alloc (.cells #[.int .i64 a, .int .i64 b, .int .i64 c, .int .i64 d, .int .i64 e] 3)) 9; rw [World.size_alloc] at q; exact q), ((HPW.out.call HB1.out).alloc _).alloc _⟩
            clear hc c0 c1 c2 c3 c4
            have HZ1 := Lib.hid hz1
            clear hz1
            go_wp2_with fail
            go_loopw [7, 70] (fun s c wr => ∃ (k : Nat) (X : ByteArray), c = .int .i64 (k : Int) ∧ s = .string X ∧ k ≤ 4 ∧ X.size ≤ 2 + 22 * k ∧ Hid (X.data.toList = [45, 80] ++ sumL N uni k) ∧ Hid (GrowSt w w1.heap.size (w1.heap.size + 1) V wr)) (fun _ c _ => 4 - (intOf c).toNat)
            case atStart => exact ⟨0, ⟨#[45, 80]⟩, rfl, rfl, by omega, by decide, Lib.hid rfl, HG0⟩
            case round =>
              clear HG0
              obtain ⟨k, X, rfl, rfl, hk4, hX, HX, HG⟩ := hrel
              obtain ⟨wA, hwA⟩ : ∃ wA : World, wA = wr := ⟨_, rfl⟩
              subst hwA
              by_cases hlt : k < 4
              · have cu := HG.out.2.2.1.2 k hlt
                have cv := HG.out.2.1.2 k (by omega)
                obtain ⟨q0, q1, q2, q3, q4, q5⟩ := HN.out k (by omega)
                have HSU : Hid (sumL N uni (k + 1) = sumL N uni k ++ partL (N k) (uni k)) := Lib.hid rfl
                obtain ⟨n, hn⟩ : ∃ n, N k = n := ⟨_, rfl⟩
                rw [hn] at q0 q1 q2 q3 q4 q5 HSU
                clear hn
                obtain ⟨F, hF⟩ : ∃ F, V k = F := ⟨_, rfl⟩
                rw [hF] at cv q2 q3 q4 q5
                clear hF
                obtain ⟨U, hU⟩ : ∃ U, uni k = U := ⟨_, rfl⟩
                rw [hU] at cu HSU
                clear hU
                by_cases hF0 : F = 0
                · have hn0 := q3 hF0
                  subst hF0
                  have HP : Hid (partL n U = []) := Lib.hid (partL_no (by omega))
                  clear q0 q1 q2 q3 q4 q5 hn0
                  go_wp2_with fail
                  go_roundw
                  case rel => exact ⟨k + 1, X, by go_num, rfl, by omega, by omega, Lib.hid (by rw [HX.out, HSU.out, HP.out, List.append_nil]), HG⟩
                  case measure => simp [intOf]; omega
                · have hn0 := q2 hF0
                  have hFb : (F != 0) = true := by simpa using hF0
                  have hFb2 : (F == 0) = false := by simpa using hF0
                  have HP : Hid (partL n U = Lib.itoa n ++ [U]) := Lib.hid (partL_yes hn0)
                  have CI : Hid (Calls Tryd.prog 11 #[.int .i64 n] wA fun e w' => e = .returned (.string ⟨(Lib.itoa n).toArray⟩) ∧ Below wA.heap.size wA w') := Lib.hid (itoaP n wA HG.out.2.2.2 (by omega) (by omega))
                  have hil := Lib.itoa_length_le n (by omega) (by omega)
                  obtain ⟨S, hS⟩ : ∃ S : ByteArray, (⟨(Lib.itoa n).toArray⟩ : ByteArray) = S := ⟨_, rfl⟩
                  rw [hS] at CI
                  have HSl : Hid (S.data.toList = Lib.itoa n) := Lib.hid (by rw [← hS])
                  have hs : S.size ≤ 21 := by rw [Lib.size_eq, HSl.out]; exact hil
                  have HY : Hid ((X ++ S ++ (⟨#[U]⟩ : ByteArray)).data.toList = [45, 80] ++ sumL N uni (k + 1)) := Lib.hid (by rw [app_eqT, app_eqT, HX.out, HSl.out, HSU.out, HP.out]; simp)
                  have HYs : Hid ((X ++ S ++ (⟨#[U]⟩ : ByteArray)).size ≤ 2 + 22 * (k + 1)) := Lib.hid (by rw [ByteArray.size_append, ByteArray.size_append]; show X.size + S.size + 1 ≤ _; omega)
                  clear hS hil q0 q1 q2 q3 hn0 hF0
                  go_wp2_with (go_at_call 11; (with_reducible refine CI.out.mono ?_); rintro ev w2 ⟨rfl, hb2⟩; have HG2 := Lib.hid (HG.out.call hb2); clear hb2)
                  go_roundw
                  case rel => exact ⟨k + 1, _, by go_num, rfl, by omega, HYs.out, HY, HG2⟩
                  case measure => simp [intOf]; omega
              · obtain rfl : k = 4 := by omega
                clear hlt hk4
                rw [show ((4 : Nat) : Int) = 4 from rfl]
                have cv := HG.out.2.1.2 4 (by omega)
                obtain ⟨q0, q1, q2, q3, q4, q5⟩ := HN.out 4 (by omega)
                obtain ⟨n, hn⟩ : ∃ n, N 4 = n := ⟨_, rfl⟩
                rw [hn] at q0 q1 q4 q5 HT
                clear hn q2 q3
                obtain ⟨F, hF⟩ : ∃ F, V 4 = F := ⟨_, rfl⟩
                rw [hF] at cv q4 q5
                clear hF
                have HGT : Hid (GrowT w wA.heap.size (wA.alloc (.cells #[.string ⟨#[72]⟩, .string ⟨#[77]⟩, .string ⟨#[83]⟩] 9))) := Lib.hid ⟨HG.out.1.alloc HG.out.1.size _, tun_new wA _, HG.out.2.2.2.alloc _⟩
                have HTV : Hid (∀ i, 0 ≤ tval n i ∧ tval n i ≤ 1000000000000) := Lib.hid (tval_bd q0 q1)
                by_cases hn0 : 0 < n
                · have hnd : decide (0 < n) = true := decide_eq_true hn0
                  have HTL : Hid (tailL n = [84] ++ sumL (tval n) tun 3) := Lib.hid (tail_sum hn0)
                  have HX2 : Hid ((X ++ (⟨#[84]⟩ : ByteArray)).data.toList = [45, 80] ++ sumL N uni 4 ++ [84]) := Lib.hid (by rw [app_eqT, HX.out])
                  have HXs2 : Hid ((X ++ (⟨#[84]⟩ : ByteArray)).size ≤ 100) := Lib.hid (by rw [ByteArray.size_append]; show X.size + 1 ≤ _; omega)
                  go_wp2_with fail
                  try rw [q5]
                  go_loopw [7, 103] (fun s c wr => ∃ (k : Nat) (X : ByteArray), c = .int .i64 (k : Int) ∧ s = .string X ∧ k ≤ 3 ∧ X.size ≤ 100 + 22 * k ∧ Hid (X.data.toList = [45, 80] ++ sumL N uni 4 ++ [84] ++ sumL (tval n) tun k) ∧ Hid (GrowT w wA.heap.size wr)) (fun _ c _ => 3 - (intOf c).toNat)
                  case atStart => exact ⟨0, _, rfl, rfl, by omega, HXs2.out, Lib.hid (by rw [HX2.out]; simp [sumL]), HGT⟩
                  case round =>
                    obtain ⟨k, X3, rfl, rfl, hk3, hX3, HX3, HG3⟩ := hrel
                    obtain ⟨wC, hwC⟩ : ∃ wC : World, wC = wr := ⟨_, rfl⟩
                    subst hwC
                    by_cases hlt : k < 3
                    · have cu := HG3.out.2.1.2 k hlt
                      have cu2 : (wC.alloc (.cells #[.int .i64 (n / 3600), .int .i64 (n / 60 % 60), .int .i64 (n % 60)] 3)).cell? ⟨wA.heap.size, k, none⟩ = some (.string ⟨#[tun k]⟩) := (World.cell?_alloc_lt _ _ ⟨wA.heap.size, k, none⟩ HG3.out.2.1.1).trans cu
                      have c3 := three_cells n wC 3 k hlt
                      obtain ⟨m0, m1⟩ := HTV.out k
                      have HSU : Hid (sumL (tval n) tun (k + 1) = sumL (tval n) tun k ++ partL (tval n k) (tun k)) := Lib.hid rfl
                      obtain ⟨m, hm⟩ : ∃ m, tval n k = m := ⟨_, rfl⟩
                      rw [hm] at c3 m0 m1 HSU
                      clear hm
                      obtain ⟨U, hU⟩ : ∃ U, tun k = U := ⟨_, rfl⟩
                      rw [hU] at cu cu2 HSU
                      clear hU
                      have HG4 : Hid (GrowT w wA.heap.size (wC.alloc (.cells #[.int .i64 (n / 3600), .int .i64 (n / 60 % 60), .int .i64 (n % 60)] 3))) := Lib.hid (HG3.out.call ((Below.refl _ _).alloc (Nat.le_refl _) _))
                      have HP4 := Lib.hid HG4.out.2.2
                      by_cases hm0 : 0 < m
                      · have hmd : decide (0 < m) = true := decide_eq_true hm0
                        have HP : Hid (partL m U = Lib.itoa m ++ [U]) := Lib.hid (partL_yes hm0)
                        have CI : Hid (∀ w0, Pow w0 → Calls Tryd.prog 11 #[.int .i64 m] w0 fun e w' => e = .returned (.string ⟨(Lib.itoa m).toArray⟩) ∧ Below w0.heap.size w0 w') := Lib.hid fun w0 h => itoaP m w0 h (by omega) (by omega)
                        have hil := Lib.itoa_length_le m (by omega) (by omega)
                        obtain ⟨S, hS⟩ : ∃ S : ByteArray, (⟨(Lib.itoa m).toArray⟩ : ByteArray) = S := ⟨_, rfl⟩
                        rw [hS] at CI
                        have HSl : Hid (S.data.toList = Lib.itoa m) := Lib.hid (by rw [← hS])
                        have hs : S.size ≤ 21 := by rw [Lib.size_eq, HSl.out]; exact hil
                        have HY : Hid ((X3 ++ S ++ (⟨#[U]⟩ : ByteArray)).data.toList = [45, 80] ++ sumL N uni 4 ++ [84] ++ sumL (tval n) tun (k + 1)) := Lib.hid (by rw [app_eqT, app_eqT, HX3.out, HSl.out, HSU.out, HP.out]; simp)
                        have HYs : Hid ((X3 ++ S ++ (⟨#[U]⟩ : ByteArray)).size ≤ 100 + 22 * (k + 1)) := Lib.hid (by rw [ByteArray.size_append, ByteArray.size_append]; show X3.size + S.size + 1 ≤ _; omega)
                        clear hS hil m0 m1 hm0
                        go_wp2_with (go_at_call 11; (with_reducible refine (CI.out _ HP4.out).mono ?_); rintro ev w2 ⟨rfl, hb2⟩; have HG5 := Lib.hid (HG4.out.call hb2); clear hb2)
                        go_roundw
                        case rel => exact ⟨k + 1, _, by go_num, rfl, by omega, HYs.out, HY, HG5⟩
                        case measure => simp [intOf]; omega
                      · have hmd : decide (0 < m) = false := decide_eq_false hm0
                        have HP : Hid (partL m U = []) := Lib.hid (partL_no hm0)
                        clear m0 m1 hm0
                        go_wp2_with fail
                        go_roundw
                        case rel => exact ⟨k + 1, X3, by go_num, rfl, by omega, by omega, Lib.hid (by rw [HX3.out, HSU.out, HP.out, List.append_nil]), HG4⟩
                        case measure => simp [intOf]; omega
                    · obtain rfl : k = 3 := by omega
                      have HE : Hid ((⟨(textL V).toArray⟩ : ByteArray) = X3) := Lib.hid (str_eqT (by rw [HX3.out, HT.out.2, HTL.out]; simp only [List.append_assoc]))
                      go_wp2_with fail
                      go_ret2
                      exact ⟨by rw [HE.out, HT.out.1]; rfl, HG3.out.1⟩
                · have hnd : decide (0 < n) = false := decide_eq_false hn0
                  obtain rfl : n = 0 := by omega
                  have HTL : Hid (tailL 0 = []) := Lib.hid (tailL_no (by omega))
                  clear hn0 hnd q0 q1
                  go_wp2_with fail
                  try rw [q5]
                  go_loopw [7, 103] (fun s c wr => ∃ (k : Nat), c = .int .i64 (k : Int) ∧ s = .string X ∧ k ≤ 3 ∧ Hid (GrowT w wA.heap.size wr)) (fun _ c _ => 3 - (intOf c).toNat)
                  case atStart => exact ⟨0, rfl, rfl, by omega, HGT⟩
                  case round =>
                    obtain ⟨k, rfl, rfl, hk3, HG3⟩ := hrel
                    obtain ⟨wC, hwC⟩ : ∃ wC : World, wC = wr := ⟨_, rfl⟩
                    subst hwC
                    by_cases hlt : k < 3
                    · have cu := HG3.out.2.1.2 k hlt
                      have c3 := zero_cells wC 3 k hlt
                      have HG4 : Hid (GrowT w wA.heap.size (wC.alloc (.cells #[.int .i64 0, .int .i64 0, .int .i64 0] 3))) := Lib.hid (HG3.out.call ((Below.refl _ _).alloc (Nat.le_refl _) _))
                      go_wp2_with fail
                      go_roundw
                      case rel => exact ⟨k + 1, by go_num, rfl, by omega, HG4⟩
                      case measure => simp [intOf]; omega
                    · obtain rfl : k = 3 := by omega
                      have HE : Hid ((⟨(textL V).toArray⟩ : ByteArray) = X) := Lib.hid (str_eqT (by rw [HX.out, HT.out.2, HTL.out, List.append_nil]))
                      go_wp2_with fail
                      go_ret2
                      exact ⟨by rw [HE.out, HT.out.1]; rfl, HG3.out.1⟩
        · rcases hx : dnB V 5 with _ | _
          · have HT : Hid (textE V = 0 ∧ textL V = [80] ++ sumL (pos V) uni 4 ++ tailL (pos V 4)) := Lib.hid (by have q := textE_ok HBG.out HS.out; exact ⟨q.1, q.2.trans (by rw [textS_up hx hu, head_sum, pos_is])⟩)
            have hsg : sgF V 5 = 1 := by unfold sgF; rw [hu]; rfl
            rw [hsg]
            have HN : Hid (∀ i, i < 5 → 0 ≤ (pos V) i ∧ (pos V) i ≤ 1000000000000 ∧ (V i ≠ 0 → 0 < (pos V) i) ∧ (V i = 0 → (pos V) i = 0) ∧ wrap64 (1 * V i) = (pos V) i ∧ wrap64 (V i) = (pos V) i) := Lib.hid fun i hi => by
              have q1 := bigB_no HBG.out hi
              have q2 := dnB_no hx hi
              have q3 : pos V i = V i := Int.one_mul _
              rw [q3]
              exact ⟨q2, q1.2, fun h => by omega, fun h => h, by rw [Int.one_mul]; exact IntWalk.wrap64_in _ (by omega), IntWalk.wrap64_in _ (by omega)⟩
            obtain ⟨N, hN⟩ : ∃ N, pos V = N := ⟨_, rfl⟩
            rw [hN] at HT HN
            clear hu hx hsg hN HS
            have HG0 : Hid (GrowSt w w1.heap.size (w1.heap.size + 1) V ((w1.alloc (.cells #[.int .i64 a, .int .i64 b, .int .i64 c, .int .i64 d, .int .i64 e] 3)).alloc (.cells #[.string ⟨#[89]⟩, .string ⟨#[77]⟩, .string ⟨#[87]⟩, .string ⟨#[68]⟩] 9))) := Lib.hid ⟨(HB1.out.alloc (by omega) _).alloc (by simp; omega) _, Row5.call ⟨by simp, hc.out⟩ ((Below.refl _ _).alloc (Nat.le_refl _) _), (by have q := uni_new (w1.alloc (.cells #[.int .i64 a, .int .i64 b, .int .i64 c, .int .i64 d, .int .i64 e] 3)) 9; rw [World.size_alloc] at q; exact q), ((HPW.out.call HB1.out).alloc _).alloc _⟩
            clear hc c0 c1 c2 c3 c4
            have HZ1 := Lib.hid hz1
            clear hz1
            go_wp2_with fail
            go_loopw [7, 70] (fun s c wr => ∃ (k : Nat) (X : ByteArray), c = .int .i64 (k : Int) ∧ s = .string X ∧ k ≤ 4 ∧ X.size ≤ 2 + 22 * k ∧ Hid (X.data.toList = [80] ++ sumL N uni k) ∧ Hid (GrowSt w w1.heap.size (w1.heap.size + 1) V wr)) (fun _ c _ => 4 - (intOf c).toNat)
            case atStart => exact ⟨0, ⟨#[80]⟩, rfl, rfl, by omega, by decide, Lib.hid rfl, HG0⟩
            case round =>
              clear HG0
              obtain ⟨k, X, rfl, rfl, hk4, hX, HX, HG⟩ := hrel
              obtain ⟨wA, hwA⟩ : ∃ wA : World, wA = wr := ⟨_, rfl⟩
              subst hwA
              by_cases hlt : k < 4
              · have cu := HG.out.2.2.1.2 k hlt
                have cv := HG.out.2.1.2 k (by omega)
                obtain ⟨q0, q1, q2, q3, q4, q5⟩ := HN.out k (by omega)
                have HSU : Hid (sumL N uni (k + 1) = sumL N uni k ++ partL (N k) (uni k)) := Lib.hid rfl
                obtain ⟨n, hn⟩ : ∃ n, N k = n := ⟨_, rfl⟩
                rw [hn] at q0 q1 q2 q3 q4 q5 HSU
                clear hn
                obtain ⟨F, hF⟩ : ∃ F, V k = F := ⟨_, rfl⟩
                rw [hF] at cv q2 q3 q4 q5
                clear hF
                obtain ⟨U, hU⟩ : ∃ U, uni k = U := ⟨_, rfl⟩
                rw [hU] at cu HSU
                clear hU
                by_cases hF0 : F = 0
                · have hn0 := q3 hF0
                  subst hF0
                  have HP : Hid (partL n U = []) := Lib.hid (partL_no (by omega))
                  clear q0 q1 q2 q3 q4 q5 hn0
                  go_wp2_with fail
                  go_roundw
                  case rel => exact ⟨k + 1, X, by go_num, rfl, by omega, by omega, Lib.hid (by rw [HX.out, HSU.out, HP.out, List.append_nil]), HG⟩
                  case measure => simp [intOf]; omega
                · have hn0 := q2 hF0
                  have hFb : (F != 0) = true := by simpa using hF0
                  have hFb2 : (F == 0) = false := by simpa using hF0
                  have HP : Hid (partL n U = Lib.itoa n ++ [U]) := Lib.hid (partL_yes hn0)
                  have CI : Hid (Calls Tryd.prog 11 #[.int .i64 n] wA fun e w' => e = .returned (.string ⟨(Lib.itoa n).toArray⟩) ∧ Below wA.heap.size wA w') := Lib.hid (itoaP n wA HG.out.2.2.2 (by omega) (by omega))
                  have hil := Lib.itoa_length_le n (by omega) (by omega)
                  obtain ⟨S, hS⟩ : ∃ S : ByteArray, (⟨(Lib.itoa n).toArray⟩ : ByteArray) = S := ⟨_, rfl⟩
                  rw [hS] at CI
                  have HSl : Hid (S.data.toList = Lib.itoa n) := Lib.hid (by rw [← hS])
                  have hs : S.size ≤ 21 := by rw [Lib.size_eq, HSl.out]; exact hil
                  have HY : Hid ((X ++ S ++ (⟨#[U]⟩ : ByteArray)).data.toList = [80] ++ sumL N uni (k + 1)) := Lib.hid (by rw [app_eqT, app_eqT, HX.out, HSl.out, HSU.out, HP.out]; simp)
                  have HYs : Hid ((X ++ S ++ (⟨#[U]⟩ : ByteArray)).size ≤ 2 + 22 * (k + 1)) := Lib.hid (by rw [ByteArray.size_append, ByteArray.size_append]; show X.size + S.size + 1 ≤ _; omega)
                  clear hS hil q0 q1 q2 q3 hn0 hF0
                  go_wp2_with (go_at_call 11; (with_reducible refine CI.out.mono ?_); rintro ev w2 ⟨rfl, hb2⟩; have HG2 := Lib.hid (HG.out.call hb2); clear hb2)
                  go_roundw
                  case rel => exact ⟨k + 1, _, by go_num, rfl, by omega, HYs.out, HY, HG2⟩
                  case measure => simp [intOf]; omega
              · obtain rfl : k = 4 := by omega
                clear hlt hk4
                rw [show ((4 : Nat) : Int) = 4 from rfl]
                have cv := HG.out.2.1.2 4 (by omega)
                obtain ⟨q0, q1, q2, q3, q4, q5⟩ := HN.out 4 (by omega)
                obtain ⟨n, hn⟩ : ∃ n, N 4 = n := ⟨_, rfl⟩
                rw [hn] at q0 q1 q4 q5 HT
                clear hn q2 q3
                obtain ⟨F, hF⟩ : ∃ F, V 4 = F := ⟨_, rfl⟩
                rw [hF] at cv q4 q5
                clear hF
                have HGT : Hid (GrowT w wA.heap.size (wA.alloc (.cells #[.string ⟨#[72]⟩, .string ⟨#[77]⟩, .string ⟨#[83]⟩] 9))) := Lib.hid ⟨HG.out.1.alloc HG.out.1.size _, tun_new wA _, HG.out.2.2.2.alloc _⟩
                have HTV : Hid (∀ i, 0 ≤ tval n i ∧ tval n i ≤ 1000000000000) := Lib.hid (tval_bd q0 q1)
                by_cases hn0 : 0 < n
                · have hnd : decide (0 < n) = true := decide_eq_true hn0
                  have HTL : Hid (tailL n = [84] ++ sumL (tval n) tun 3) := Lib.hid (tail_sum hn0)
                  have HX2 : Hid ((X ++ (⟨#[84]⟩ : ByteArray)).data.toList = [80] ++ sumL N uni 4 ++ [84]) := Lib.hid (by rw [app_eqT, HX.out])
                  have HXs2 : Hid ((X ++ (⟨#[84]⟩ : ByteArray)).size ≤ 100) := Lib.hid (by rw [ByteArray.size_append]; show X.size + 1 ≤ _; omega)
                  go_wp2_with fail
                  try rw [q5]
                  go_loopw [7, 103] (fun s c wr => ∃ (k : Nat) (X : ByteArray), c = .int .i64 (k : Int) ∧ s = .string X ∧ k ≤ 3 ∧ X.size ≤ 100 + 22 * k ∧ Hid (X.data.toList = [80] ++ sumL N uni 4 ++ [84] ++ sumL (tval n) tun k) ∧ Hid (GrowT w wA.heap.size wr)) (fun _ c _ => 3 - (intOf c).toNat)
                  case atStart => exact ⟨0, _, rfl, rfl, by omega, HXs2.out, Lib.hid (by rw [HX2.out]; simp [sumL]), HGT⟩
                  case round =>
                    obtain ⟨k, X3, rfl, rfl, hk3, hX3, HX3, HG3⟩ := hrel
                    obtain ⟨wC, hwC⟩ : ∃ wC : World, wC = wr := ⟨_, rfl⟩
                    subst hwC
                    by_cases hlt : k < 3
                    · have cu := HG3.out.2.1.2 k hlt
                      have cu2 : (wC.alloc (.cells #[.int .i64 (n / 3600), .int .i64 (n / 60 % 60), .int .i64 (n % 60)] 3)).cell? ⟨wA.heap.size, k, none⟩ = some (.string ⟨#[tun k]⟩) := (World.cell?_alloc_lt _ _ ⟨wA.heap.size, k, none⟩ HG3.out.2.1.1).trans cu
                      have c3 := three_cells n wC 3 k hlt
                      obtain ⟨m0, m1⟩ := HTV.out k
                      have HSU : Hid (sumL (tval n) tun (k + 1) = sumL (tval n) tun k ++ partL (tval n k) (tun k)) := Lib.hid rfl
                      obtain ⟨m, hm⟩ : ∃ m, tval n k = m := ⟨_, rfl⟩
                      rw [hm] at c3 m0 m1 HSU
                      clear hm
                      obtain ⟨U, hU⟩ : ∃ U, tun k = U := ⟨_, rfl⟩
                      rw [hU] at cu cu2 HSU
                      clear hU
                      have HG4 : Hid (GrowT w wA.heap.size (wC.alloc (.cells #[.int .i64 (n / 3600), .int .i64 (n / 60 % 60), .int .i64 (n % 60)] 3))) := Lib.hid (HG3.out.call ((Below.refl _ _).alloc (Nat.le_refl _) _))
                      have HP4 := Lib.hid HG4.out.2.2
                      by_cases hm0 : 0 < m
                      · have hmd : decide (0 < m) = true := decide_eq_true hm0
                        have HP : Hid (partL m U = Lib.itoa m ++ [U]) := Lib.hid (partL_yes hm0)
                        have CI : Hid (∀ w0, Pow w0 → Calls Tryd.prog 11 #[.int .i64 m] w0 fun e w' => e = .returned (.string ⟨(Lib.itoa m).toArray⟩) ∧ Below w0.heap.size w0 w') := Lib.hid fun w0 h => itoaP m w0 h (by omega) (by omega)
                        have hil := Lib.itoa_length_le m (by omega) (by omega)
                        obtain ⟨S, hS⟩ : ∃ S : ByteArray, (⟨(Lib.itoa m).toArray⟩ : ByteArray) = S := ⟨_, rfl⟩
                        rw [hS] at CI
                        have HSl : Hid (S.data.toList = Lib.itoa m) := Lib.hid (by rw [← hS])
                        have hs : S.size ≤ 21 := by rw [Lib.size_eq, HSl.out]; exact hil
                        have HY : Hid ((X3 ++ S ++ (⟨#[U]⟩ : ByteArray)).data.toList = [80] ++ sumL N uni 4 ++ [84] ++ sumL (tval n) tun (k + 1)) := Lib.hid (by rw [app_eqT, app_eqT, HX3.out, HSl.out, HSU.out, HP.out]; simp)
                        have HYs : Hid ((X3 ++ S ++ (⟨#[U]⟩ : ByteArray)).size ≤ 100 + 22 * (k + 1)) := Lib.hid (by rw [ByteArray.size_append, ByteArray.size_append]; show X3.size + S.size + 1 ≤ _; omega)
                        clear hS hil m0 m1 hm0
                        go_wp2_with (go_at_call 11; (with_reducible refine (CI.out _ HP4.out).mono ?_); rintro ev w2 ⟨rfl, hb2⟩; have HG5 := Lib.hid (HG4.out.call hb2); clear hb2)
                        go_roundw
                        case rel => exact ⟨k + 1, _, by go_num, rfl, by omega, HYs.out, HY, HG5⟩
                        case measure => simp [intOf]; omega
                      · have hmd : decide (0 < m) = false := decide_eq_false hm0
                        have HP : Hid (partL m U = []) := Lib.hid (partL_no hm0)
                        clear m0 m1 hm0
                        go_wp2_with fail
                        go_roundw
                        case rel => exact ⟨k + 1, X3, by go_num, rfl, by omega, by omega, Lib.hid (by rw [HX3.out, HSU.out, HP.out, List.append_nil]), HG4⟩
                        case measure => simp [intOf]; omega
                    · obtain rfl : k = 3 := by omega
                      have HE : Hid ((⟨(textL V).toArray⟩ : ByteArray) = X3) := Lib.hid (str_eqT (by rw [HX3.out, HT.out.2, HTL.out]; simp only [List.append_assoc]))
                      go_wp2_with fail
                      go_ret2
                      exact ⟨by rw [HE.out, HT.out.1]; rfl, HG3.out.1⟩
                · have hnd : decide (0 < n) = false := decide_eq_false hn0
                  obtain rfl : n = 0 := by omega
                  have HTL : Hid (tailL 0 = []) := Lib.hid (tailL_no (by omega))
                  clear hn0 hnd q0 q1
                  go_wp2_with fail
                  try rw [q5]
                  go_loopw [7, 103] (fun s c wr => ∃ (k : Nat), c = .int .i64 (k : Int) ∧ s = .string X ∧ k ≤ 3 ∧ Hid (GrowT w wA.heap.size wr)) (fun _ c _ => 3 - (intOf c).toNat)
                  case atStart => exact ⟨0, rfl, rfl, by omega, HGT⟩
                  case round =>
                    obtain ⟨k, rfl, rfl, hk3, HG3⟩ := hrel
                    obtain ⟨wC, hwC⟩ : ∃ wC : World, wC = wr := ⟨_, rfl⟩
                    subst hwC
                    by_cases hlt : k < 3
                    · have cu := HG3.out.2.1.2 k hlt
                      have c3 := zero_cells wC 3 k hlt
                      have HG4 : Hid (GrowT w wA.heap.size (wC.alloc (.cells #[.int .i64 0, .int .i64 0, .int .i64 0] 3))) := Lib.hid (HG3.out.call ((Below.refl _ _).alloc (Nat.le_refl _) _))
                      go_wp2_with fail
                      go_roundw
                      case rel => exact ⟨k + 1, by go_num, rfl, by omega, HG4⟩
                      case measure => simp [intOf]; omega
                    · obtain rfl : k = 3 := by omega
                      have HE : Hid ((⟨(textL V).toArray⟩ : ByteArray) = X) := Lib.hid (str_eqT (by rw [HX.out, HT.out.2, HTL.out, List.append_nil]))
                      go_wp2_with fail
                      go_ret2
                      exact ⟨by rw [HE.out, HT.out.1]; rfl, HG3.out.1⟩
          · exact absurd ⟨hu, hx⟩ HS.out
  · have CS2 : Hid (∀ w0, Calls Tryd.prog 10 #[.agg #[.int .i64 a, .int .i64 b, .int .i64 c, .int .i64 d, .int .i64 e]] w0 fun ev w' => ev = .returned (.bool false) ∧ Below w0.heap.size w0 w') := Lib.hid fun w0 => by have := CS.out w0; rw [hbg] at this; exact this
    have HB := Lib.hid (textE_big hbg)
    clear CS hbg HA1
    go_enter Tryd.func5, Tryd.ntmps5
    go_wp2_with (go_at_call 10; (with_reducible refine (CS2.out _).mono ?_); rintro ev w1 ⟨rfl, hb1⟩; have HB1 := Lib.hid (thenB HA0.out hb1); clear hb1)
    go_ret2
    exact ⟨by rw [HB.out.1, HB.out.2]; rfl, HB1.out⟩
end Go.Proofs.YtkfpnlenmdlmjaaDoor
