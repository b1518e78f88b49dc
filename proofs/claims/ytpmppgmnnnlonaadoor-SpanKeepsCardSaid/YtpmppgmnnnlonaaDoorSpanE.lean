/- The table of compositions: the program's. -/
import Derived.Test.YtpmppgmnnnlonaaDoorSpanD
import Derived.Deep.RegionWith
namespace Go.Proofs.YtpmppgmnnnlonaaDoor
open Go.RowKit
set_option maxRecDepth 100000 in
theorem zero_cells (i : Nat) (hi : i < 169) : Tryd.zeroCells101[i]? = some (.int .i64 0) := by
  have h : (List.range 169).all (fun i => match Tryd.zeroCells101[i]? with | some (.int .i64 0) => true | _ => false) = true := by kernel_rfl
  have := List.all_eq_true.1 h i (List.mem_range.2 hi)
  revert this
  split
  · intro _; assumption
  · intro h; cases h
/-- A table lies in a block. -/
def Tbl (w : World) (B : Nat) (f : Nat → Nat) : Prop := B < w.heap.size ∧ (∀ i, i < 169 → w.cell? ⟨B, i, none⟩ = some (.int .i64 (f i : Int))) ∧ (∀ i, w.frozen? ⟨B, i, none⟩ = false)
theorem Tbl.alloc {w : World} {B : Nat} {f : Nat → Nat} (h : Tbl w B f) (o : Obj) : Tbl (w.alloc o) B f :=
  ⟨by have := h.1; simp; omega, fun i hi => (World.cell?_alloc_lt w o ⟨B, i, none⟩ h.1).trans (h.2.1 i hi), fun i => (World.frozen?_alloc_old w o ⟨B, i, none⟩ (Nat.ne_of_lt h.1)).trans (h.2.2 i)⟩
theorem Tbl.call {w w' : World} {B : Nat} {f : Nat → Nat} (h : Tbl w B f) (hb : Below w.heap.size w w') : Tbl w' B f :=
  ⟨Nat.lt_of_lt_of_le h.1 hb.size, fun i hi => (hb.cell (p := ⟨B, i, none⟩) h.1).trans (h.2.1 i hi), fun i => (hb.frozen (p := ⟨B, i, none⟩) h.1).trans (h.2.2 i)⟩
theorem Tbl.congr {w : World} {B : Nat} {f g : Nat → Nat} (h : Tbl w B f) (e : ∀ i, i < 169 → f i = g i) : Tbl w B g := ⟨h.1, fun i hi => by rw [h.2.1 i hi, e i hi], h.2.2⟩
theorem Tbl.set {w : World} {B : Nat} {f : Nat → Nat} (h : Tbl w B f) (i v : Nat) (hi : i < 169) : Tbl (w.setCell ⟨B, i, none⟩ (.int .i64 (v : Int))) B (fun j => if j = i then v else f j) := by
  refine ⟨by have := h.1; simpa [World.setCell] using this, fun j hj => ?_, fun j => by rw [World.frozen?_setCell]; exact h.2.2 j⟩
  show (w.setCell ⟨B, i, none⟩ (.int .i64 (v : Int))).cell? ⟨B, j, none⟩ = some (.int .i64 ((if j = i then v else f j : Nat) : Int))
  by_cases e : j = i
  · subst e; rw [World.cell?_setCell_same _ _ _ (h.2.1 j hj), if_pos rfl]
  · rw [World.cell?_setCell_other _ _ _ _ (by intro x; cases x; exact e rfl), if_neg e]; exact h.2.1 j hj
/-- The table is done up to a place. -/
def tabF (n : Nat) (i : Nat) : Nat := if i < n then Sp.tab (i / 13) (i % 13) else 0
theorem tab_step {w : World} {B P Q : Nat} (h : Tbl w B (tabF (P * 13 + Q))) (hP : P < 13) (hQ : Q < 13) : Tbl (w.setCell ⟨B, P * 13 + Q, none⟩ (.int .i64 (Sp.tab P Q : Int))) B (tabF (P * 13 + (Q + 1))) := by
  refine (h.set (P * 13 + Q) (Sp.tab P Q) (by omega)).congr fun i hi => ?_
  unfold tabF
  by_cases e : i = P * 13 + Q
  · subst e
    rw [if_pos rfl, if_pos (by omega), show (P * 13 + Q) / 13 = P by omega, show (P * 13 + Q) % 13 = Q by omega]
  · rw [if_neg e]
    by_cases h2 : i < P * 13 + Q
    · rw [if_pos h2, if_pos (by omega)]
    · rw [if_neg h2, if_neg (by omega)]
def TabRel (B : Nat) (w : World) (n : Nat) (wr : World) : Prop := Tbl wr B (tabF n) ∧ Below w.heap.size w wr
set_option maxRecDepth 100000 in
set_option maxHeartbeats 2000000 in
theorem newTable_any (w : World) : Calls Tryd.prog 46 #[] w fun e w' => ∃ B, e = .returned (.pointer (some ⟨B, 0, none⟩)) ∧ Tbl w' B (fun i => Sp.tab (i / 13) (i % 13)) ∧ Below w.heap.size w w' := by
  go_enter Tryd.func46, Tryd.ntmps46
  go_wp2_with fail
  go_loopw [6] (fun c wr => ∃ P : Nat, c = .int .i64 (P : Int) ∧ P ≤ 13 ∧ TabRel w.heap.size w (P * 13 + 0) wr) (fun c _ => 13 - (intOf c).toNat)
  case atStart => exact ⟨0, rfl, by omega, ⟨by simp, fun i hi => by rw [World.cell?_alloc_at _ _ _ _ (by simp)]; exact zero_cells i hi, fun i => by simp⟩, (Below.refl _ _).alloc (Nat.le_refl _) _⟩
  case round =>
    obtain ⟨P, rfl, hP, HR⟩ := hrel
    by_cases hlt : P < 13
    · have hFd : decide ((P : Int) < 13) = true := by simp; omega
      go_wp2_with fail
      go_loopw [9] (fun c wi => ∃ Q : Nat, c = .int .i64 (Q : Int) ∧ Q ≤ 13 ∧ TabRel w.heap.size w (P * 13 + Q) wi) (fun c _ => 13 - (intOf c).toNat)
      case atStart => exact ⟨0, rfl, by omega, HR⟩
      case round =>
        clear HR
        obtain ⟨Q, rfl, hQ, HR⟩ := hrel
        by_cases hlt2 : Q < 13
        · have e0 := HR.1.1
          have i1 : (0 : Int) ≤ (P : Int) := by omega
          have i2 : (P : Int) < 13 := by omega
          have i3 : (0 : Int) ≤ (Q : Int) := by omega
          have i4 : (Q : Int) < 13 := by omega
          go_wp2_with fail
          go_region_with ((go_at_call 57; refine (joint_any _ _ _ hlt hlt2).mono ?_; rintro e w1 ⟨rfl, hb1⟩; have HT1 := Lib.hid (HR.1.call (offD hb1)); have hx1 := HT1.out.2.1 (P * 13 + Q) (by omega); have hf1 := HT1.out.2.2 (P * 13 + Q); have hz1 := HT1.out.1; have HB1 := Lib.hid (thenB HR.2 (offD hb1)); clear hb1))
          all_goals go_wp2_with fail
          all_goals go_roundw
          case rel => exact ⟨Q + 1, by go_num, by omega, tab_step HT1.out hlt hlt2, HB1.out.setCell (Nat.le_refl _) _⟩
          case measure => simp [intOf]; omega
        · go_wp2_with fail
          go_roundw
          case rel => exact ⟨P + 1, by go_num, by omega, by obtain rfl : Q = 13 := (by omega); have h := HR; rw [show P * 13 + 13 = (P + 1) * 13 + 0 by omega] at h; exact h⟩
          case measure => simp [intOf]; omega
    · go_wp2_with fail
      go_ret
      obtain rfl : P = 13 := by omega
      exact ⟨_, rfl, HR.1.congr fun i hi => by unfold tabF; rw [if_pos (by omega)], HR.2⟩
/-- The ways in which a may lie to c, where a may lie to b in the ways p, and b to c in the ways q; of the pairs that have been passed. -/
def JoinP (p q : Nat) (I J : Nat) (v : Nat) : Prop := ∃ a b : Nat, a < 13 ∧ b < 13 ∧ (a < I ∨ a = I ∧ b < J) ∧ p.testBit a = true ∧ q.testBit b = true ∧ (Sp.tab a b).testBit v = true
theorem JoinP.none {p q : Nat} : ∀ v, v < 13 → ¬ JoinP p q 0 0 v := by
  rintro v _ ⟨a, b, _, _, h, _⟩
  omega
theorem join_skip {s p q I J : Nat} (h : Bits s (JoinP p q I J)) (hp : ¬ (p.testBit I = true ∧ q.testBit J = true)) : Bits s (JoinP p q I (J + 1)) := by
  refine h.congr fun v _ => ⟨fun ⟨a, b, h1, h2, h3, h4⟩ => ⟨a, b, h1, h2, by omega, h4⟩, fun ⟨a, b, h1, h2, h3, h4, h5, h6⟩ => ⟨a, b, h1, h2, ?_, h4, h5, h6⟩⟩
  by_cases e : a = I ∧ b = J
  · obtain ⟨rfl, rfl⟩ := e; exact absurd ⟨h4, h5⟩ hp
  · omega
theorem join_take {s p q I J : Nat} (h : Bits s (JoinP p q I J)) (hI : I < 13) (hJ : J < 13) (hp : p.testBit I = true) (hq : q.testBit J = true) : Bits (s ||| Sp.tab I J) (JoinP p q I (J + 1)) := by
  refine (h.or (⟨tab_lt I J hI hJ, fun v _ => Iff.rfl⟩ : Bits (Sp.tab I J) fun v => (Sp.tab I J).testBit v = true)).congr fun v _ => ⟨?_, ?_⟩
  · rintro (⟨a, b, h1, h2, h3, h4⟩ | h)
    · exact ⟨a, b, h1, h2, by omega, h4⟩
    · exact ⟨I, J, hI, hJ, by omega, hp, hq, h⟩
  · rintro ⟨a, b, h1, h2, h3, h4, h5, h6⟩
    by_cases e : a = I ∧ b = J
    · obtain ⟨rfl, rfl⟩ := e; exact .inr h6
    · exact .inl ⟨a, b, h1, h2, by omega, h4, h5, h6⟩
theorem join_row {s p q I : Nat} (h : Bits s (JoinP p q I 13)) : Bits s (JoinP p q (I + 1) 0) :=
  h.congr fun v _ => ⟨fun ⟨a, b, h1, h2, h3, h4⟩ => ⟨a, b, h1, h2, by omega, h4⟩, fun ⟨a, b, h1, h2, h3, h4⟩ => ⟨a, b, h1, h2, by omega, h4⟩⟩
set_option maxRecDepth 100000 in
set_option maxHeartbeats 2000000 in
theorem tjoin_any (B p q : Nat) (w : World) (hp : p < 8192) (hq : q < 8192) (hT : Tbl w B (fun i => Sp.tab (i / 13) (i % 13))) : Calls Tryd.prog 47 #[.pointer (some ⟨B, 0, none⟩), .int .i64 (p : Int), .int .i64 (q : Int)] w fun e w' => ∃ s : Nat, e = .returned (.int .i64 (s : Int)) ∧ Bits s (JoinP p q 13 0) ∧ w' = w := by
  have HT := Lib.hid hT; clear hT
  go_enter Tryd.func47, Tryd.ntmps47
  go_wp2_with fail
  go_loop [7, 10] (fun o c => ∃ s I : Nat, o = .int .i64 (s : Int) ∧ c = .int .i64 (I : Int) ∧ I ≤ 13 ∧ Hid (Bits s (JoinP p q I 0))) (fun _ c => 13 - (intOf c).toNat)
  case atStart => exact ⟨0, 0, rfl, rfl, by omega, Lib.hid (Bits.none JoinP.none)⟩
  case round =>
    obtain ⟨s, I, rfl, rfl, hI, HB⟩ := hrel
    by_cases hlt : I < 13
    · have hFd : decide ((I : Int) < 13) = true := by simp; omega
      go_wp2_with fail
      go_loop [7, 13] (fun o c => ∃ s J : Nat, o = .int .i64 (s : Int) ∧ c = .int .i64 (J : Int) ∧ J ≤ 13 ∧ Hid (Bits s (JoinP p q I J))) (fun _ c => 13 - (intOf c).toNat)
      case atStart => exact ⟨s, 0, rfl, rfl, by omega, HB⟩
      case round =>
        clear HB
        obtain ⟨s, J, rfl, rfl, hJ, HB⟩ := hrel
        by_cases hlt2 : J < 13
        · by_cases hpI : p.testBit I = true
          · by_cases hqJ : q.testBit J = true
            · have hx := HT.out.2.1 (I * 13 + J) (by omega)
              have i1 : (0 : Int) ≤ (I : Int) := by omega
              have i2 : (I : Int) < 13 := by omega
              have i3 : (0 : Int) ≤ (J : Int) := by omega
              have i4 : (J : Int) < 13 := by omega
              simp only [show (I * 13 + J) / 13 = I by omega, show (I * 13 + J) % 13 = J by omega] at hx
              go_wp2_with fail
              refine (has_any p I _ hp hlt).mono ?_; rintro e w' ⟨rfl, rfl⟩
              rw [hpI]
              go_wp2_with fail
              refine (has_any q J _ hq hlt2).mono ?_; rintro e w' ⟨rfl, rfl⟩
              rw [hqJ]
              go_wp2_with fail
              go_round
              case rel => exact ⟨s ||| Sp.tab I J, J + 1, by rw [(set_or s _ HB.out.1 (tab_lt I J hlt hlt2)).1], by go_num, by omega, Lib.hid (join_take HB.out hlt hlt2 hpI hqJ)⟩
              case measure => simp [intOf]; omega
            · rw [Bool.not_eq_true] at hqJ
              go_wp2_with fail
              refine (has_any p I _ hp hlt).mono ?_; rintro e w' ⟨rfl, rfl⟩
              rw [hpI]
              go_wp2_with fail
              refine (has_any q J _ hq hlt2).mono ?_; rintro e w' ⟨rfl, rfl⟩
              rw [hqJ]
              go_wp2_with fail
              go_round
              case rel => exact ⟨s, J + 1, rfl, by go_num, by omega, Lib.hid (join_skip HB.out (by simp [hqJ]))⟩
              case measure => simp [intOf]; omega
          · rw [Bool.not_eq_true] at hpI
            go_wp2_with fail
            refine (has_any p I _ hp hlt).mono ?_; rintro e w' ⟨rfl, rfl⟩
            rw [hpI]
            go_wp2_with fail
            go_round
            case rel => exact ⟨s, J + 1, rfl, by go_num, by omega, Lib.hid (join_skip HB.out (by simp [hpI]))⟩
            case measure => simp [intOf]; omega
        · go_wp2_with fail
          go_round
          case rel => exact ⟨s, I + 1, rfl, by go_num, by omega, by obtain rfl : J = 13 := (by omega); exact Lib.hid (join_row HB.out)⟩
          case measure => simp [intOf]; omega
    · go_wp2_with fail
      go_ret
      obtain rfl : I = 13 := by omega
      exact ⟨s, rfl, HB.out, rfl⟩
end Go.Proofs.YtpmppgmnnnlonaaDoor
