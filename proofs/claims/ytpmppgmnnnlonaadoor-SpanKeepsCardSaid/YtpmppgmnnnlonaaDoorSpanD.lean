/- The ways in which a span may lie to a third one, of a pair of ways: the program's joint. -/
import Derived.Test.YtpmppgmnnnlonaaDoorSpanC
import Derived.Test.YtpmppgmnnnlonaaDoorIdx
namespace Go.Proofs.YtpmppgmnnnlonaaDoor
open Go.RowKit
/-- A pair of ends that has been passed tells the way v. -/
def JointP (p q : Nat) (I J : Nat) (v : Nat) : Prop := ∃ i j : Nat, i < j ∧ j < 14 ∧ (i < I ∨ i = I ∧ j < J) ∧ Sp.way (2 * (i : Int) + 2) (2 * (j : Int) + 2) 10 20 = p ∧ ThirdP (2 * (i : Int) + 2) (2 * (j : Int) + 2) 10 20 q 30 31 v
theorem JointP.none {p q : Nat} : ∀ v, v < 13 → ¬ JointP p q 0 1 v := by
  rintro v _ ⟨i, j, h1, h2, h3, _⟩
  omega
theorem joint_skip {s p q I J : Nat} (h : Bits s (JointP p q I J)) (hp : Sp.way (2 * (I : Int) + 2) (2 * (J : Int) + 2) 10 20 ≠ p) : Bits s (JointP p q I (J + 1)) := by
  refine h.congr fun v _ => ⟨fun ⟨i, j, h1, h2, h3, h4⟩ => ⟨i, j, h1, h2, by omega, h4⟩, fun ⟨i, j, h1, h2, h3, h4⟩ => ⟨i, j, h1, h2, ?_, h4⟩⟩
  by_cases e : i = I ∧ j = J
  · obtain ⟨rfl, rfl⟩ := e; exact absurd h4.1 hp
  · omega
theorem joint_take {s t p q I J : Nat} (h : Bits s (JointP p q I J)) (g : Bits t (ThirdP (2 * (I : Int) + 2) (2 * (J : Int) + 2) 10 20 q 30 31)) (h1 : I < J) (h2 : J < 14) (hp : Sp.way (2 * (I : Int) + 2) (2 * (J : Int) + 2) 10 20 = p) : Bits (s ||| t) (JointP p q I (J + 1)) := by
  refine (h.or g).congr fun v _ => ⟨?_, ?_⟩
  · rintro (⟨i, j, h1, h2, h3, h4⟩ | h)
    · exact ⟨i, j, h1, h2, by omega, h4⟩
    · exact ⟨I, J, h1, h2, by omega, hp, h⟩
  · rintro ⟨i, j, h1, h2, h3, h4, h5⟩
    by_cases e : i = I ∧ j = J
    · obtain ⟨rfl, rfl⟩ := e; exact .inr h5
    · exact .inl ⟨i, j, h1, h2, by omega, h4, h5⟩
theorem joint_row {s p q I : Nat} (h : Bits s (JointP p q I 14)) : Bits s (JointP p q (I + 1) (I + 1 + 1)) :=
  h.congr fun v _ => ⟨fun ⟨i, j, h1, h2, h3, h4⟩ => ⟨i, j, h1, h2, by omega, h4⟩, fun ⟨i, j, h1, h2, h3, h4⟩ => ⟨i, j, h1, h2, by omega, h4⟩⟩
theorem joint_end {s p q : Nat} (h : Bits s (JointP p q 14 15)) (hp : p < 13) (hq : q < 13) : s = Sp.tab p q := by
  refine h.tab hp hq ?_ ?_
  · rintro v _ ⟨i, j, h1, h2, _, h4, f, t, g1, g2, g3, _, g5, g6⟩
    have := Sp.sound (2 * (i : Int) + 2) (2 * (j : Int) + 2) 10 20 f t (by omega) (by omega) g2
    rw [h4, g5, g6] at this
    exact this
  · intro v hv h
    obtain ⟨x, y, f, t, e1, e2, e3, e4, e5, e6, e7, e8, e9, e10, e11⟩ := Sp.fullP p q v hp hq hv h
    have ex : (2 * ((x / 2 - 1 : Nat) : Int) + 2) = x := by omega
    have ey : (2 * ((y / 2 - 1 : Nat) : Int) + 2) = y := by omega
    exact ⟨x / 2 - 1, y / 2 - 1, by omega, by omega, by omega, by rw [ex, ey]; exact e9, f, t, by omega, by omega, by omega, by omega, by exact_mod_cast e10, by rw [ex, ey]; exact e11⟩
/-- The ends. -/
def endsV : Array Value := #[.int .i64 2, .int .i64 4, .int .i64 6, .int .i64 8, .int .i64 10, .int .i64 12, .int .i64 14, .int .i64 16, .int .i64 18, .int .i64 20, .int .i64 22, .int .i64 24, .int .i64 26, .int .i64 28]
theorem ends_get (k : Nat) (hk : k < 14) : endsV[k]? = some (.int .i64 (2 * (k : Int) + 2)) := by
  match k, hk with
  | 0, _ => rfl
  | 1, _ => rfl
  | 2, _ => rfl
  | 3, _ => rfl
  | 4, _ => rfl
  | 5, _ => rfl
  | 6, _ => rfl
  | 7, _ => rfl
  | 8, _ => rfl
  | 9, _ => rfl
  | 10, _ => rfl
  | 11, _ => rfl
  | 12, _ => rfl
  | 13, _ => rfl
theorem int_info : (Tryd.prog.info? 3).map (fun i => (i.zero, i.size, i.bytes)) = some (some (.int .i64 0), 1, 8) := by kernel_rfl
theorem ends_at (k : Nat) (hk : k < 14) (w : World) : (Instr.index 122 (.agg endsV) (.int .i64 (k : Int))).run Tryd.prog w = .ok (.int .i64 (2 * (k : Int) + 2)) w := by
  obtain ⟨i0, hi, _⟩ := info_parts int_info
  exact index_agg Tryd.underlying122 hi (by kernel_rfl) (fun _ => by kernel_rfl) .i64 k hk (ends_get k hk) w
theorem ends_slice (B l : Nat) (x : Int) (hx : x = (l : Int)) (hl : l ≤ 14) (w : World) : (Instr.sliceAt 122 (.pointer (some ⟨B, 0, none⟩)) (some (.int .i64 x)) none none).run Tryd.prog w = .ok (.slice (some (if 14 = l then ⟨B, 0, none⟩ else ⟨B, l, none⟩)) (14 - l) (14 - l)) w := by
  obtain ⟨i0, hi, _⟩ := info_parts int_info
  exact slice_arr Tryd.underlying122 hi (by kernel_rfl) B l x hx hl w
/-- The ends lie in a block. -/
def Ends (w : World) (B : Nat) : Prop := B < w.heap.size ∧ ∀ k, k < 14 → w.cell? ⟨B, k, none⟩ = some (.int .i64 (2 * (k : Int) + 2))
theorem Ends.alloc {w : World} {B : Nat} (h : Ends w B) (o : Obj) : Ends (w.alloc o) B := ⟨by have := h.1; simp; omega, fun k hk => (World.cell?_alloc_lt w o ⟨B, k, none⟩ h.1).trans (h.2 k hk)⟩
theorem Ends.call {w w' : World} {B : Nat} (h : Ends w B) (hb : Below w.heap.size w w') : Ends w' B := ⟨Nat.lt_of_lt_of_le h.1 hb.size, fun k hk => (hb.cell (p := ⟨B, k, none⟩) h.1).trans (h.2 k hk)⟩
theorem Ends.new (w : World) (t : TypeId) : Ends (w.alloc (.cells endsV t)) w.heap.size := by
  refine ⟨by simp, fun k hk => ?_⟩
  rw [World.cell?_alloc_at _ _ _ _ (by simp)]
  exact ends_get k hk
def JointRel (p q : Nat) (B : Nat) (w : World) (I J s : Nat) (wr : World) : Prop := Bits s (JointP p q I J) ∧ Two wr B 10 20 ∧ Ends wr (B + 1) ∧ Below w.heap.size w wr
set_option maxRecDepth 100000 in
set_option maxHeartbeats 2000000 in
theorem joint_any (p q : Nat) (w : World) (hp : p < 13) (hq : q < 13) : Calls Tryd.prog 57 #[.int .i64 (p : Int), .int .i64 (q : Int)] w fun e w' => e = .returned (.int .i64 (Sp.tab p q : Int)) ∧ Below w.heap.size w w' := by
  go_enter Tryd.func57, Tryd.ntmps57
  go_wp2_with fail
  go_loopw [6, 16] (fun o c wr => ∃ s I : Nat, o = .int .i64 (s : Int) ∧ c = .int .i64 (I : Int) ∧ I ≤ 14 ∧ JointRel p q w.heap.size w I (I + 1) s wr) (fun _ c _ => 14 - (intOf c).toNat)
  case atStart => exact ⟨0, 0, rfl, rfl, by omega, Bits.none JointP.none, (Two.new w 10 20 _).alloc _, by have := Ends.new (w.alloc (.cells #[.int .i64 10, .int .i64 20] 23)) 122; simp only [World.size_alloc] at this; exact this, ((Below.refl _ _).alloc (Nat.le_refl _) _).alloc (by simp) _⟩
  case round =>
    obtain ⟨s, I, rfl, rfl, hI, HR⟩ := hrel
    by_cases hlt : I < 14
    · have hFd : decide ((I : Int) < 14) = true := by simp; omega
      have hi := ends_at I hlt
      unfold endsV at hi
      obtain ⟨hB, hA, hE, hW⟩ := HR
      have HB := Lib.hid hB
      have HA := Lib.hid hA
      have HE := Lib.hid hE
      have HW := Lib.hid hW
      clear hB hA hE hW
      have hsl := ends_slice (w.heap.size + 1) (I + 1) ((I : Int) + 1) (by omega) (by omega)
      obtain ⟨X, hX1, hX2⟩ : ∃ X, (if 14 = I + 1 then (⟨w.heap.size + 1, 0, none⟩ : Addr) else ⟨w.heap.size + 1, I + 1, none⟩) = ⟨w.heap.size + 1, X, none⟩ ∧ (I < 13 → X = I + 1) := by
        by_cases h : 14 = I + 1
        · exact ⟨0, by rw [if_pos h], by omega⟩
        · exact ⟨I + 1, by rw [if_neg h], by omega⟩
      rw [hX1] at hsl
      have HX := Lib.hid hX2
      clear hX1 hX2
      go_wp2_with fail
      go_loopw [6, 24] (fun o c wi => ∃ s m : Nat, o = .int .i64 (s : Int) ∧ c = .int .i64 (m : Int) ∧ m ≤ 14 - (I + 1) ∧ JointRel p q w.heap.size w I (I + 1 + m) s wi) (fun _ c _ => 14 - (I + 1) - (intOf c).toNat)
      case atStart => exact ⟨s, 0, rfl, rfl, by omega, HB.out, HA.out, HE.out, HW.out⟩
      case round =>
        clear HB HA HE HW
        obtain ⟨s, m, rfl, rfl, hm, HR⟩ := hrel
        have hB := HR.1
        have hA := HR.2.1
        have hE := HR.2.2.1
        have hW := HR.2.2.2
        clear HR
        by_cases hlt2 : m < 14 - (I + 1)
        · obtain ⟨J, hJ⟩ : ∃ J : Nat, J = I + 1 + m := ⟨_, rfl⟩
          have hc := hE.2 (I + 1 + m) (by omega)
          rw [show (⟨w.heap.size + 1, I + 1 + m, none⟩ : Addr) = ⟨w.heap.size + 1, X + m, none⟩ by rw [HX.out (by omega)]] at hc
          rw [← hJ] at hB
          rw [show ((I + 1 + m : Nat) : Int) = (J : Int) by rw [hJ]] at hc
          have HB := Lib.hid hB
          have HA := Lib.hid hA
          have HE := Lib.hid hE
          have HW := Lib.hid hW
          have HJ := Lib.hid hJ
          have hIJ : 2 * (I : Int) + 2 < 2 * (J : Int) + 2 := by omega
          obtain ⟨a0, a1, a2⟩ := hA
          have e0 := hE.1
          clear hB hE hW hJ
          go_wp2_with fail
          refine (way_any _ _ _ _ _ hIJ (by omega)).mono ?_; rintro e w1 ⟨rfl, hb1⟩
          have HA1 := (HA.out.alloc _).call hb1
          have HE1 := Lib.hid ((HE.out.alloc _).call hb1)
          have HX1 := (Two.new wr (2 * (I : Int) + 2) (2 * (J : Int) + 2) 23).call hb1
          have HW1 := Lib.hid (thenB (Below.alloc HW.out HW.out.size _) hb1)
          have hb1z := hb1.size
          simp only [World.size_alloc] at hb1z
          clear hb1 a0 a1 a2 e0 hc
          by_cases hq : Sp.way (2 * (I : Int) + 2) (2 * (J : Int) + 2) 10 20 = p
          · have hqb : (((Sp.way (2 * (I : Int) + 2) (2 * (J : Int) + 2) 10 20 : Nat) : Int) == (p : Int)) = true := by simp [hq]
            have HQ := Lib.hid hq; clear hq
            have HAH1 := Lib.hid HA1
            obtain ⟨a0, a1, a2⟩ := HA1
            obtain ⟨x0, x1, x2⟩ := HX1
            go_wp2_with fail
            refine (third_any _ _ _ _ _ _ hIJ (by omega)).mono ?_; rintro e w2 ⟨t, rfl, hT, hb2⟩
            have HT := Lib.hid hT
            have HA2 := HAH1.out.call hb2
            have HE2 := HE1.out.call hb2
            have HW2 := Lib.hid (thenB HW1.out hb2)
            clear hb2 a0 a1 a2 x0 x1 x2 hT
            go_wp2_with fail
            go_roundw
            case rel =>
              have hs := HB.out.1
              exact ⟨s ||| t, m + 1, by rw [(set_or s t hs HT.out.1).1], by go_num, by omega, by have := joint_take HB.out HT.out (by have := HJ.out; omega) (by have := HJ.out; omega) HQ.out; rw [HJ.out] at this; exact this, HA2, HE2, HW2.out⟩
            case measure => simp [intOf]; omega
          · have hqb : (((Sp.way (2 * (I : Int) + 2) (2 * (J : Int) + 2) 10 20 : Nat) : Int) == (p : Int)) = false := by simp; omega
            have HQ := Lib.hid hq; clear hq
            go_wp2_with fail
            go_roundw
            case rel => exact ⟨s, m + 1, rfl, by go_num, by omega, by have := joint_skip HB.out HQ.out; rw [HJ.out] at this; exact this, HA1, HE1.out, HW1.out⟩
            case measure => simp [intOf]; omega
        · obtain rfl : m = 14 - (I + 1) := by omega
          rw [show I + 1 + (14 - (I + 1)) = 14 by omega] at hB
          have HB := Lib.hid hB
          have HA := Lib.hid hA
          have HE := Lib.hid hE
          have HW := Lib.hid hW
          clear hB hA hE hW
          go_wp2_with fail
          go_roundw
          case rel => exact ⟨s, I + 1, rfl, by go_num, by omega, joint_row HB.out, HA.out, HE.out, HW.out⟩
          case measure => simp [intOf]; omega
    · go_wp2_with fail
      go_ret
      obtain rfl : I = 14 := by omega
      exact ⟨ret1 (by rw [joint_end HR.1 hp hq]), HR.2.2.2⟩
end Go.Proofs.YtpmppgmnnnlonaaDoor
