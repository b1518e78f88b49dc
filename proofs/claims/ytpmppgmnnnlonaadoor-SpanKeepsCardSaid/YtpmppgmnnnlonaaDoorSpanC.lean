/- The ways in which a span lies to a third one: the program's third. -/
import Derived.Test.YtpmppgmnnnlonaaDoorSpanB
import Derived.Outline
namespace Go.Proofs.YtpmppgmnnnlonaaDoor
open Go.RowKit
theorem wrap_pow {n : Nat} (h : n < 13) : wrap64 (2 ^ n) = 2 ^ n := by
  have hh : ∀ n, n < 13 → wrap64 (2 ^ n) = 2 ^ n := by decide +kernel
  exact hh n h
/-- A third span that has been passed tells the way v. -/
def ThirdP (a b c d : Int) (q : Nat) (F T : Int) (v : Nat) : Prop := ∃ f t : Int, 1 ≤ f ∧ f < t ∧ t < 30 ∧ (f < F ∨ f = F ∧ t < T) ∧ Sp.way c d f t = q ∧ Sp.way a b f t = v
theorem ThirdP.none {a b c d : Int} {q : Nat} : ∀ v, v < 13 → ¬ ThirdP a b c d q ((1 : Nat) : Int) (((1 : Nat) : Int) + 1) v := by
  rintro v _ ⟨f, t, h1, h2, h3, h4, _⟩
  omega
theorem third_skip {s : Nat} {a b c d F T : Int} {q : Nat} (h : Bits s (ThirdP a b c d q F T)) (hq : Sp.way c d F T ≠ q) : Bits s (ThirdP a b c d q F (T + 1)) := by
  refine h.congr fun v _ => ⟨fun ⟨f, t, h1, h2, h3, h4, h5⟩ => ⟨f, t, h1, h2, h3, by omega, h5⟩, fun ⟨f, t, h1, h2, h3, h4, h5⟩ => ⟨f, t, h1, h2, h3, ?_, h5⟩⟩
  by_cases e : f = F ∧ t = T
  · obtain ⟨rfl, rfl⟩ := e; exact absurd h5.1 hq
  · omega
theorem third_take {s : Nat} {a b c d F T : Int} {q : Nat} (h : Bits s (ThirdP a b c d q F T)) (h1 : 1 ≤ F) (h2 : F < T) (h3 : T < 30) (hq : Sp.way c d F T = q) : Bits (s ||| 2 ^ Sp.way a b F T) (ThirdP a b c d q F (T + 1)) := by
  refine (h.add (Sp.way_lt a b F T)).congr fun v _ => ⟨?_, ?_⟩
  · rintro (⟨f, t, h1, h2, h3, h4, h5⟩ | rfl)
    · exact ⟨f, t, h1, h2, h3, by omega, h5⟩
    · exact ⟨F, T, h1, h2, h3, by omega, hq, rfl⟩
  · rintro ⟨f, t, h1, h2, h3, h4, h5⟩
    by_cases e : f = F ∧ t = T
    · obtain ⟨rfl, rfl⟩ := e; exact .inr h5.2
    · exact .inl ⟨f, t, h1, h2, h3, by omega, h5⟩
theorem third_row {s : Nat} {a b c d F : Int} {q : Nat} (h : Bits s (ThirdP a b c d q F 30)) : Bits s (ThirdP a b c d q (F + 1) (F + 1 + 1)) :=
  h.congr fun v _ => ⟨fun ⟨f, t, h1, h2, h3, h4, h5⟩ => ⟨f, t, h1, h2, h3, by omega, h5⟩, fun ⟨f, t, h1, h2, h3, h4, h5⟩ => ⟨f, t, h1, h2, h3, by omega, h5⟩⟩
/-- What third answers. -/
def ThirdR (a b c d : Int) (q : Nat) (w : World) (e : Ending) (w' : World) : Prop := ∃ s : Nat, e = .returned (.int .i64 (s : Int)) ∧ Bits s (ThirdP a b c d q 30 31) ∧ Below w.heap.size w w'
set_option maxHeartbeats 2000000 in
theorem third_any (a b c d : Int) (q : Nat) (w : World) (h1 : a < b) (h2 : c < d) : Calls Tryd.prog 64 #[.agg #[.int .i64 a, .int .i64 b], .agg #[.int .i64 c, .int .i64 d], .int .i64 (q : Int)] w (ThirdR a b c d q w) := by
  have H12 : Hid (a < b ∧ c < d) := Lib.hid ⟨h1, h2⟩; clear h1 h2
  go_enter Tryd.func64, Tryd.ntmps64
  go_wp2_with fail
  go_loopw [7, 8] (fun o f wr => ∃ s F : Nat, o = .int .i64 (s : Int) ∧ f = .int .i64 (F : Int) ∧ 1 ≤ F ∧ F ≤ 30 ∧ Hid (Bits s (ThirdP a b c d q F (F + 1))) ∧ Two wr w.heap.size a b ∧ Two wr (w.heap.size + 1) c d ∧ Hid (Below w.heap.size w wr)) (fun _ f _ => 30 - (intOf f).toNat)
  case atStart => exact ⟨0, 1, rfl, rfl, by omega, by omega, Lib.hid (Bits.none ThirdP.none), (Two.new w a b _).alloc _, by have := Two.new (w.alloc (.cells #[.int .i64 a, .int .i64 b] 23)) c d 23; simpa using this, Lib.hid (((Below.refl _ _).alloc (Nat.le_refl _) _).alloc (by simp) _)⟩
  case round =>
    obtain ⟨s, F, rfl, rfl, hF1, hF2, HB, HA, HC, HW⟩ := hrel
    by_cases hlt : F < 30
    · have hFd : decide ((F : Int) < 30) = true := by simp; omega
      go_wp2_with fail
      go_loopw [7, 9] (fun o f wi => ∃ s T : Nat, o = .int .i64 (s : Int) ∧ f = .int .i64 (T : Int) ∧ F < T ∧ T ≤ 30 ∧ Hid (Bits s (ThirdP a b c d q F T)) ∧ Two wi w.heap.size a b ∧ Two wi (w.heap.size + 1) c d ∧ Hid (Below w.heap.size w wi)) (fun _ f _ => 30 - (intOf f).toNat)
      case atStart => exact ⟨s, F + 1, rfl, by go_num, by omega, by omega, Lib.hid (by have := HB.out; push_cast; exact this), HA, HC, HW⟩
      case round =>
        obtain ⟨s, T, rfl, rfl, hT1, hT2, HB, HA, HC, HW⟩ := hrel
        by_cases hlt2 : T < 30
        · have hFT : (F : Int) < (T : Int) := by omega
          have HAH := Lib.hid HA
          have HCH := Lib.hid HC
          obtain ⟨a0, a1, a2⟩ := HA
          obtain ⟨c0, c1, c2⟩ := HC
          go_wp2_with fail
          refine (way_any _ _ _ _ _ H12.out.2 hFT).mono ?_; rintro e w1 ⟨rfl, hb1⟩
          have HA1 := (HAH.out.alloc _).call hb1
          have HC1 := (HCH.out.alloc _).call hb1
          have HX1 := (Two.new wr F T 23).call hb1
          have HW1 := Lib.hid (thenB (Below.alloc HW.out HW.out.size _) hb1)
          have hb1z := hb1.size
          simp only [World.size_alloc] at hb1z
          have hwz := HW.out.size
          clear hb1 a0 a1 a2 c0 c1 c2
          have hv := Sp.way_lt a b F T
          by_cases hq : Sp.way c d F T = q
          · have hqb : (((Sp.way c d F T : Nat) : Int) == (q : Int)) = true := by simp [hq]
            have HQ := Lib.hid hq; clear hq
            have HAH1 := Lib.hid HA1
            have HCH1 := Lib.hid HC1
            obtain ⟨a0, a1, a2⟩ := HA1
            obtain ⟨x0, x1, x2⟩ := HX1
            clear HC1
            go_wp2_with fail
            refine (way_any _ _ _ _ _ H12.out.1 hFT).mono ?_; rintro e w2 ⟨rfl, hb2⟩
            have HA2 := HAH1.out.call hb2
            have HC2 := HCH1.out.call hb2
            have HW2 := Lib.hid (thenB HW1.out hb2)
            clear hb2 a0 a1 a2 x0 x1 x2
            go_wp2_with fail
            go_roundw
            case rel =>
              have hs := HB.out.1
              exact ⟨s ||| 2 ^ Sp.way a b F T, T + 1, by rw [wrap_pow hv, (set_add s _ hs hv).1], by go_num, by omega, by omega, Lib.hid (by push_cast; exact third_take HB.out (by omega) hFT (by omega) HQ.out), HA2, HC2, HW2⟩
            case measure => simp [intOf]; omega
          · have hqb : (((Sp.way c d F T : Nat) : Int) == (q : Int)) = false := by simp; omega
            have HQ := Lib.hid hq; clear hq
            go_wp2_with fail
            go_roundw
            case rel => exact ⟨s, T + 1, rfl, by go_num, by omega, by omega, Lib.hid (by push_cast; exact third_skip HB.out HQ.out), HA1, HC1, HW1⟩
            case measure => simp [intOf]; omega
        · go_wp2_with fail
          go_roundw
          case rel =>
            obtain rfl : T = 30 := by omega
            exact ⟨s, F + 1, rfl, by go_num, by omega, by omega, Lib.hid (by push_cast; exact third_row HB.out), HA, HC, HW⟩
          case measure => simp [intOf]; omega
    · go_wp2_with fail
      go_ret
      obtain rfl : F = 30 := by omega
      exact ⟨s, rfl, HB.out, HW.out⟩
end Go.Proofs.YtpmppgmnnnlonaaDoor
