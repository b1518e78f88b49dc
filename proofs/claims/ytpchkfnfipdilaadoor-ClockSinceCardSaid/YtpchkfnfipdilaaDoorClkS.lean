/- Plain laws of the period between two times. -/
import Derived.Test.YtpchkfnfipdilaaDoorClkP
namespace Go.Proofs.YtpchkfnfipdilaaDoor
open Go.RowKit
/-- So many months behind a there is a time no later than b. -/
def Good (a b k r : Int) : Prop := AddR a 0 k 0 0 0 r 0 ∧ r ≤ b
/-- A time and its date. -/
def Dated (t y m d : Int) : Prop := -345600000000 ≤ t ∧ t ≤ 345600086399 ∧ Dm.Valid 1 y m d ∧ Dm.dayOf 1 y m d = t / 86400
theorem Dated.year {t y m d : Int} (h : Dated t y m d) : -17500 ≤ y ∧ y ≤ 17500 ∧ 1 ≤ m ∧ m ≤ 12 ∧ 1 ≤ d ∧ d ≤ 31 := by
  obtain ⟨t1, t2, hv, hd⟩ := h
  have hi := Dm.in_year 1 y m d (by omega) (by omega) hv
  have hf : Dm.first 1 = -719162 := rfl
  rw [hd, hf] at hi
  have l1 := Dm.lin_start 1 y (by omega) (by omega)
  have l2 := Dm.lin_start 1 (y + 1) (by omega) (by omega)
  unfold Dm.Lin at l1 l2
  obtain ⟨y1, y2, m1, m2, d1, d2⟩ := hv
  rw [Dm.greg12] at m2
  have := Dm.greg_len y m m1 m2
  refine ⟨by omega, by omega, m1, m2, d1, by omega⟩
theorem Good.parts {a b y m d k r : Int} (ha : Dated a y m d) (k1 : 0 ≤ k) (k2 : k ≤ 1000000) (h : Good a b k r) : MonOk y m d k ∧ r = Dm.monDay y m d k * 86400 + a % 86400 ∧ r ≤ b := by
  obtain ⟨h, hb⟩ := h
  rcases addM_eq ha.1 ha.2.1 ha.2.2.1 ha.2.2.2 k1 (by omega) h with ⟨h1, h2, _⟩ | ⟨_, _, h3⟩
  · exact ⟨h1, h2, hb⟩
  · exact absurd h3 (by decide)
theorem Good.mk {a b y m d k : Int} (ha : Dated a y m d) (k1 : 0 ≤ k) (k2 : k ≤ 1000000) (h : MonOk y m d k) (hb : Dm.monDay y m d k * 86400 + a % 86400 ≤ b) : Good a b k (Dm.monDay y m d k * 86400 + a % 86400) :=
  ⟨(addM ha.1 ha.2.1 ha.2.2.1 ha.2.2.2 k1 (by omega)).1 h, hb⟩
theorem good_last {a b y m d y' m' d' k r : Int} (ha : Dated a y m d) (hb : Dated b y' m' d') (k1 : 0 ≤ k) (k2 : k ≤ 1000000) (h : Good a b k r) : 12 * y + m + k ≤ 12 * y' + m' := by
  obtain ⟨ho, hr, hle⟩ := h.parts ha k1 k2
  rcases Int.lt_or_le (12 * y' + m') (12 * y + m + k) with hl | hl
  · have := Dm.mon_lt (d := d) ho.1 ho.2.1 ha.2.2.1.2.2.2.2.1 hb.2.2.1 hl
    rw [hb.2.2.2] at this
    omega
  · exact hl
theorem good_zero {a b y m d : Int} (ha : Dated a y m d) (hab : a ≤ b) : Good a b 0 a := by
  have hz := Dm.mon_zero ha.2.2.1
  rw [ha.2.2.2] at hz
  have hy := ha.year
  have ht := ha.1
  have ht2 := ha.2.1
  have hm := Dm.mon_bd y m 0
  have e : a / 86400 * 86400 + a % 86400 = a := by omega
  have := Good.mk (b := b) ha (k := 0) (by omega) (by omega) ⟨by omega, by omega, by omega, by omega⟩ (by rw [hz]; omega)
  rw [hz, e] at this
  exact this
/-- The period between two times. -/
def SinR (a b yy mm dd ss x : Int) : Prop :=
  ((a < -345600000000 ∨ 345600086399 < a ∨ b < -345600000000 ∨ 345600086399 < b) ∧ yy = 0 ∧ mm = 0 ∧ dd = 0 ∧ ss = 0 ∧ x = 4) ∨
  (-345600000000 ≤ a ∧ a ≤ 345600086399 ∧ -345600000000 ≤ b ∧ b ≤ 345600086399 ∧ b < a ∧ yy = 0 ∧ mm = 0 ∧ dd = 0 ∧ ss = 0 ∧ x = 7) ∨
  (-345600000000 ≤ a ∧ a ≤ 345600086399 ∧ -345600000000 ≤ b ∧ b ≤ 345600086399 ∧ a ≤ b ∧ x = 0 ∧ ∃ y m d y' m' d' n r, Dated a y m d ∧ Dated b y' m' d' ∧ 0 ≤ n ∧ n ≤ 500000 ∧ Good a b n r ∧ (∀ k r', n < k → k ≤ 1000000 → ¬ Good a b k r') ∧ yy = n / 12 ∧ mm = n % 12 ∧ dd = (b - r) / 86400 ∧ ss = (b - r) % 86400)
theorem SinR.one {a b yy mm dd ss x yy' mm' dd' ss' x' : Int} (h : SinR a b yy mm dd ss x) (h' : SinR a b yy' mm' dd' ss' x') : yy = yy' ∧ mm = mm' ∧ dd = dd' ∧ ss = ss' ∧ x = x' := by
  rcases h with ⟨g, rfl, rfl, rfl, rfl, rfl⟩ | ⟨g1, g2, g3, g4, g5, rfl, rfl, rfl, rfl, rfl⟩ | ⟨g1, g2, g3, g4, g5, rfl, _, _, _, _, _, _, n, r, _, _, n1, n2, hg, hm, rfl, rfl, rfl, rfl⟩ <;>
    rcases h' with ⟨f, rfl, rfl, rfl, rfl, rfl⟩ | ⟨f1, f2, f3, f4, f5, rfl, rfl, rfl, rfl, rfl⟩ | ⟨f1, f2, f3, f4, f5, rfl, _, _, _, _, _, _, n', r', _, _, n1', n2', hg', hm', rfl, rfl, rfl, rfl⟩
  · exact ⟨rfl, rfl, rfl, rfl, rfl⟩
  · omega
  · omega
  · omega
  · exact ⟨rfl, rfl, rfl, rfl, rfl⟩
  · omega
  · omega
  · omega
  · have e : n = n' := by
      rcases Int.lt_trichotomy n n' with hl | hl | hl
      · exact absurd hg' (hm n' r' hl (by omega))
      · exact hl
      · exact absurd hg (hm' n r hl (by omega))
    subst e
    obtain ⟨rfl, _⟩ := hg.1.one hg'.1
    exact ⟨rfl, rfl, rfl, rfl, rfl⟩
/-- The months that are added end as soon as they pass b's. -/
theorem good_none {a b y m d y' m' d' k r : Int} (ha : Dated a y m d) (hb : Dated b y' m' d') (k1 : 0 ≤ k) (k2 : k ≤ 1000000) (hk : 12 * y' + m' < 12 * y + m + k) : ¬ Good a b k r := fun h => by
  have := good_last ha hb k1 k2 h
  omega
theorem months_order {a b y m d y' m' d' : Int} (ha : Dated a y m d) (hb : Dated b y' m' d') (hab : a ≤ b) : 12 * y + m ≤ 12 * y' + m' := by
  have := good_last ha hb (by omega) (by omega) (good_zero ha hab)
  omega
/-- Behind the last whole month there are no more than 30 days. -/
theorem rest_days {a b y m d y' m' d' n r : Int} (ha : Dated a y m d) (hb : Dated b y' m' d') (n1 : 0 ≤ n) (n2 : n ≤ 1000000) (hg : Good a b n r) (hm : ∀ k r', n < k → k ≤ 1000000 → ¬ Good a b k r') : (b - r) / 86400 ≤ 30 := by
  obtain ⟨ho, hr, hle⟩ := hg.parts ha n1 n2
  have hl := good_last ha hb n1 n2 hg
  have ya := ha.year
  have yb := hb.year
  have b1 := hb.1
  have b2 := hb.2.1
  have hbd := hb.2.2.2
  by_cases h0 : 12 * y' + m' = 12 * y + m + n
  · have := (Dm.mon_same (y := y) (m := m) (d := d) (k := n) ya.2.2.2.2.1 hb.2.2.1 h0).1
    rw [hbd] at this
    omega
  · -- n is the last month but one
    obtain ⟨n0, hn0⟩ : ∃ n0, n0 = 12 * y' + m' - (12 * y + m) := ⟨_, rfl⟩
    have hlast : n = n0 - 1 := by
      rcases Int.lt_or_le n (n0 - 1) with hlt | hge
      · exfalso
        have hmb := Dm.mon_bd y m (n0 - 1)
        have hday := Dm.lt_mon (y := y) (m := m) (d := d) (k := n0 - 1) (by omega) (by omega) ya.2.2.2.2.1 hb.2.2.1 (by omega)
        have hday2 := Dm.mon_lt (y := y) (m := m) (d := d) (k := n0 - 1) (by omega) (by omega) ya.2.2.2.2.1 ha.2.2.1 (by omega)
        rw [hbd] at hday
        rw [ha.2.2.2] at hday2
        have a1 := ha.1
        exact hm (n0 - 1) _ hlt (by omega) (Good.mk ha (by omega) (by omega) ⟨by omega, by omega, by omega, by omega⟩ (by omega))
      · omega
    have hmb := Dm.mon_bd y m n
    have hmb0 := Dm.mon_bd y m n0
    obtain ⟨_, hsame, ey, em⟩ := Dm.mon_same (y := y) (m := m) (d := d) (k := n0) ya.2.2.2.2.1 hb.2.2.1 (by omega)
    rw [hbd] at hsame
    have hng : ¬ Good a b n0 (Dm.monDay y m d n0 * 86400 + a % 86400) := hm n0 _ (by omega) (by omega)
    have hmon : Dm.monDay y m d n < Dm.monDay y m d n0 := by
      have hv0 : Dm.Valid 1 (Dm.monY y m n) (Dm.monM y m n) (Dm.clipD (Dm.monY y m n) (Dm.monM y m n) d) := Dm.mon_valid ho.1 ho.2.1 ya.2.2.2.2.1
      have hlt2 : 12 * Dm.monY y m n + Dm.monM y m n < 12 * y + m + n0 := by omega
      exact Dm.mon_lt (by omega) (by omega) ya.2.2.2.2.1 hv0 hlt2
    have hlow : -4000000 ≤ Dm.monDay y m d n := ho.2.2.1
    by_cases hd' : Dm.clipD y' m' d < d'
    · exfalso
      exact hng (Good.mk ha (by omega) (by omega) ⟨by omega, by omega, by omega, by omega⟩ (by omega))
    · have hbf := Dm.mon_before (d := d) (k := n) ho.1 (by omega) ya.2.2.2.2.1 hb.2.2.1 (by omega) (by omega)
      rw [hbd] at hbf
      by_cases heq : d' = Dm.clipD y' m' d
      · have hgt : b < Dm.monDay y m d n0 * 86400 + a % 86400 := by
          rcases Int.lt_or_le b (Dm.monDay y m d n0 * 86400 + a % 86400) with h | h
          · exact h
          · exact absurd (Good.mk ha (by omega) (by omega) ⟨by omega, by omega, by omega, by omega⟩ h) hng
        omega
      · have := hbf.2 (by omega)
        omega
/-- The period between two times, added to the first one, is the second one. -/
theorem add_back {a b y m d n r : Int} (ha : Dated a y m d) (hb1 : -345600000000 ≤ b) (hb2 : b ≤ 345600086399) (n1 : 0 ≤ n) (n2 : n ≤ 1000000) (hg : Good a b n r) (h30 : (b - r) / 86400 ≤ 30) : AddR a (n / 12) (n % 12) 0 ((b - r) / 86400) ((b - r) % 86400) b 0 := by
  obtain ⟨ho, hr, hle⟩ := hg.parts ha n1 n2
  have hs : Small (pf (n / 12) (n % 12) 0 ((b - r) / 86400) ((b - r) % 86400)) := small_mk (by omega) (by omega) (by omega) (by omega) (by omega)
  have hN : addN (Dm.monDay y m d n) (a % 86400) 0 ((b - r) / 86400) ((b - r) % 86400) = b := by unfold addN; omega
  have hf : AddF (Dm.monDay y m d n) (a % 86400) 0 ((b - r) / 86400) ((b - r) % 86400) b 0 := by
    refine .inl ⟨⟨?_, ?_, by rw [hN]; exact hb1, by rw [hN]; exact hb2⟩, hN.symm, rfl⟩
    · have := ho.2.2.1; omega
    · omega
  refine .inr ⟨hs, ha.1, ha.2.1, Dm.monDay y m d n, 0, ?_, .inr ⟨rfl, hf⟩⟩
  by_cases h0 : n = 0
  · subst h0
    have hz := Dm.mon_zero ha.2.2.1
    exact .inl ⟨by decide, by decide, by rw [hz, ha.2.2.2], rfl⟩
  · refine .inr ⟨by omega, ?_⟩
    rw [show 12 * (n / 12) + n % 12 = n by omega]
    exact ⟨y, m, d, ha.2.2.1, ha.2.2.2, .inr ⟨ho.1, ho.2.1, (range_in ho.2.2.1 ho.2.2.2).1.symm, (range_in ho.2.2.1 ho.2.2.2).2.symm⟩⟩
/-- One month more is later, or not there. -/
theorem add_more {a b n r' x' : Int} (n1 : 0 ≤ n) (n2 : n < 1000000) (a1 : -345600000000 ≤ a) (a2 : a ≤ 345600086399) (hm : ∀ k r', n < k → k ≤ 1000000 → ¬ Good a b k r') (h : AddR a (n / 12) (n % 12 + 1) 0 0 0 r' x') : x' ≠ 0 ∨ b < r' := by
  by_cases hx : x' = 0
  · right
    subst hx
    rcases Int.lt_or_le b r' with hl | hl
    · exact hl
    · exfalso
      refine hm (n + 1) r' (by omega) (by omega) ⟨?_, hl⟩
      rcases h with ⟨_, _, h4⟩ | ⟨_, _, _, q, z, hq, hz⟩
      · exact absurd h4 (by decide)
      · rcases hq with ⟨_, h0, _⟩ | ⟨_, hq⟩
        · omega
        · rw [show 12 * (n / 12) + (n % 12 + 1) = 12 * 0 + (n + 1) by omega] at hq
          exact .inr ⟨small_mk (by omega) (by omega) (by omega) (by omega) (by omega), a1, a2, q, z, .inr ⟨by omega, hq⟩, hz⟩
  · exact .inl hx
end Go.Proofs.YtpchkfnfipdilaaDoor
