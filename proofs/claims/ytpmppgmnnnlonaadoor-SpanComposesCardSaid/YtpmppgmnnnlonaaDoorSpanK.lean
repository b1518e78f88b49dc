/- The law SpanComposes. -/
import Derived.Test.YtpmppgmnnnlonaaDoorSpanI
namespace Go.Proofs.YtpmppgmnnnlonaaDoor
open Go.RowKit
theorem tmod13 (n : Int) : (n.tmod 13 < 0 → n.tmod 13 + 13 = n % 13) ∧ (¬ n.tmod 13 < 0 → n.tmod 13 = n % 13) := by
  have h1 := Int.mul_tdiv_add_tmod n 13
  have h2 := Int.natAbs_tmod n 13
  have h3 := Nat.mod_lt n.natAbs (show 0 < (13 : Int).natAbs by decide)
  constructor
  · intro h; omega
  · intro h; omega
set_option maxHeartbeats 400000 in
theorem pick13 (n : Int) (w : World) : Calls Tryd.prog 10 #[.int .i64 n, .int .i64 13] w fun e w' => e = .returned (.int .i64 (n % 13)) ∧ w' = w := by
  obtain ⟨g1, g2⟩ := tmod13 n
  have g3 : -13 < n.tmod 13 ∧ n.tmod 13 < 13 := by
    have h2 := Int.natAbs_tmod n 13
    have h3 := Nat.mod_lt n.natAbs (show 0 < (13 : Int).natAbs by decide)
    omega
  by_cases h : n.tmod 13 < 0
  · have H := Lib.hid (g1 h)
    clear g1 g2
    obtain ⟨g4, g5⟩ := g3
    go_enter Tryd.func10, Tryd.ntmps10
    go_wp2_with fail
    all_goals go_ret
    all_goals exact ⟨ret1 (by have := H.out; first | exact this | simp_all | omega), rfl⟩
  · have H := Lib.hid (g2 h)
    clear g1 g2
    obtain ⟨g4, g5⟩ := g3
    go_enter Tryd.func10, Tryd.ntmps10
    go_wp2_with fail
    all_goals go_ret
    all_goals exact ⟨ret1 (by have := H.out; first | exact this | simp_all | omega), rfl⟩
theorem joinN_single (P Q : Nat) (hP : P < 13) (hQ : Q < 13) : joinN (2 ^ P) (2 ^ Q) = Sp.tab P Q := by
  refine (setOf_bits _).one ⟨tab_lt P Q hP hQ, fun v hv => ?_⟩
  constructor
  · intro h
    exact ⟨P, Q, hP, hQ, by rw [Nat.testBit_two_pow]; simp, by rw [Nat.testBit_two_pow]; simp, h⟩
  · rintro ⟨a, b, _, _, h3, h4, h5⟩
    rw [Nat.testBit_two_pow] at h3 h4
    simp at h3 h4
    subst h3; subst h4; exact h5
theorem plainJoin_Q (x y : Int) (p q : Nat) (w : World) (hp : p < 13) (hq : q < 13) (hx : x = 2 ^ p) (hy : y = 2 ^ q) (hT : ErrT w) : Calls Tryd.prog 9 #[.int .i64 x, .int .i64 y] w fun e w' => e = .returned (.tuple #[.int .i64 (Sp.tab p q : Int), .int .i64 0]) ∧ Below w.heap.size w w' := by
  have hp2 : 2 ^ p < 8192 := Nat.pow_lt_pow_right (by decide) (show p < 13 from hp)
  have hq2 : 2 ^ q < 8192 := Nat.pow_lt_pow_right (by decide) (show q < 13 from hq)
  have ex : x = ((2 ^ p : Nat) : Int) := by rw [hx]; push_cast; rfl
  have ey : y = ((2 ^ q : Nat) : Int) := by rw [hy]; push_cast; rfl
  have h := plainJoin_any x y w hT
  have hok : (0 ≤ x ∧ x ≤ 8191) ∧ (0 ≤ y ∧ y ≤ 8191) := by
    obtain ⟨n, hn⟩ : ∃ n : Nat, 2 ^ p = n := ⟨_, rfl⟩
    obtain ⟨m, hm⟩ : ∃ m : Nat, 2 ^ q = m := ⟨_, rfl⟩
    rw [hn] at hp2 ex
    rw [hm] at hq2 ey
    omega
  unfold TwoRetT jnV jnE at h
  rw [if_pos hok, if_pos hok, ex, ey, Int.toNat_natCast, Int.toNat_natCast, joinN_single p q hp hq] at h
  rw [ex, ey]
  exact h
theorem plainOf_L (i j : Nat) (w : World) (hT : ErrT w) : Calls Tryd.prog 8 #[.agg #[.int .i64 (lo i : Int), .int .i64 (hi i : Int)], .agg #[.int .i64 (lo j : Int), .int .i64 (hi j : Int)]] w fun e w' => e = .returned (.tuple #[.int .i64 (wayL i j : Int), .int .i64 0]) ∧ Below w.heap.size w w' := by
  have h := plainOf_any (lo i) (hi i) (lo j) (hi j) w hT
  have h1 := (lohi i).1
  have h2 := (lohi j).1
  obtain ⟨e1, e2⟩ := of_ok (a := (lo i : Int)) (b := hi i) (c := lo j) (d := hi j) (by omega) (by omega)
  unfold OfRetT at h
  rw [e1, e2] at h
  exact h
/-- The loops of the law: what has been passed. -/
def CRel (w : World) (g : Nat) (wr : World) : Prop := Pairs wr g ∧ ErrT wr ∧ Below w.heap.size w wr
theorem CRel.alloc {w : World} {g : Nat} {wr : World} (h : CRel w g wr) (o : Obj) : CRel w g (wr.alloc o) := ⟨h.1.alloc o, h.2.1.alloc o, h.2.2.alloc h.2.2.size o⟩
theorem CRel.call {w : World} {g : Nat} {wr w' : World} (h : CRel w g wr) (hb : Below wr.heap.size wr w') : CRel w g w' := ⟨h.1.call hb, h.2.1.call hb, h.2.2.trans (hb.mono h.2.2.size)⟩
theorem tabp_skip {s I J P Q : Nat} (h : Bits s (TabP I J 0 P Q)) (hne : wayL I J ≠ P) : Bits s (TabP I (J + 1) 0 P Q) := h.congr fun v _ =>
  ⟨fun ⟨i, j, k, h1, h2, h3, h4, h5⟩ => ⟨i, j, k, h1, h2, h3, by omega, h5⟩, fun ⟨i, j, k, h1, h2, h3, h4, h5, h6⟩ => ⟨i, j, k, h1, h2, h3, by
    by_cases e : i = I ∧ j = J
    · obtain ⟨rfl, rfl⟩ := e; exact absurd h5 hne
    · omega, h5, h6⟩⟩
theorem tabp_pass {s I J K P Q : Nat} (h : Bits s (TabP I J K P Q)) (hne : wayL J K ≠ Q) : Bits s (TabP I J (K + 1) P Q) := h.congr fun v _ =>
  ⟨fun ⟨i, j, k, h1, h2, h3, h4, h5⟩ => ⟨i, j, k, h1, h2, h3, by omega, h5⟩, fun ⟨i, j, k, h1, h2, h3, h4, h5, h6, h7⟩ => ⟨i, j, k, h1, h2, h3, by
    by_cases e : i = I ∧ j = J ∧ k = K
    · obtain ⟨rfl, rfl, rfl⟩ := e; exact absurd h6 hne
    · omega, h5, h6, h7⟩⟩
theorem tabp_take {s I J K P Q : Nat} (h : Bits s (TabP I J K P Q)) (hI : I < 15) (hJ : J < 15) (hK : K < 15) (hp : wayL I J = P) (hq : wayL J K = Q) : Bits (s ||| 2 ^ wayL I K) (TabP I J (K + 1) P Q) := by
  refine (h.add (wayL_lt I K)).congr fun v _ => ⟨?_, ?_⟩
  · rintro (⟨i, j, k, h1, h2, h3, h4, h5⟩ | rfl)
    · exact ⟨i, j, k, h1, h2, h3, by omega, h5⟩
    · exact ⟨I, J, K, hI, hJ, hK, by omega, hp, hq, rfl⟩
  · rintro ⟨i, j, k, h1, h2, h3, h4, h5, h6, h7⟩
    by_cases e : i = I ∧ j = J ∧ k = K
    · obtain ⟨rfl, rfl, rfl⟩ := e; exact .inr h7
    · exact .inl ⟨i, j, k, h1, h2, h3, by omega, h5, h6, h7⟩
theorem tabp_row {s I J P Q : Nat} (h : Bits s (TabP I J 15 P Q)) : Bits s (TabP I (J + 1) 0 P Q) := h.congr fun v _ =>
  ⟨fun ⟨i, j, k, h1, h2, h3, h4, h5⟩ => ⟨i, j, k, h1, h2, h3, by omega, h5⟩, fun ⟨i, j, k, h1, h2, h3, h4, h5⟩ => ⟨i, j, k, h1, h2, h3, by omega, h5⟩⟩
theorem tabp_sheet {s I P Q : Nat} (h : Bits s (TabP I 15 0 P Q)) : Bits s (TabP (I + 1) 0 0 P Q) := h.congr fun v _ =>
  ⟨fun ⟨i, j, k, h1, h2, h3, h4, h5⟩ => ⟨i, j, k, h1, h2, h3, by omega, h5⟩, fun ⟨i, j, k, h1, h2, h3, h4, h5⟩ => ⟨i, j, k, h1, h2, h3, by omega, h5⟩⟩
end Go.Proofs.YtpmppgmnnnlonaaDoor
