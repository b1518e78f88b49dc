/- Plain laws of adding periods to times. -/
import Derived.Test.YtpchkfnfipdilaaDoorDaysU
import Derived.Test.YtpchkfnfipdilaaDoorClkMath
namespace Go.Proofs.YtpchkfnfipdilaaDoor
open Go.RowKit
def Small (f : Nat → Int) : Prop := ∀ i, i < 5 → -1000000000000 ≤ f i ∧ f i ≤ 1000000000000
/-- The day so many months behind a day. -/
def MonD (y m d k r x : Int) : Prop := ((Dm.monY y m k < -20000 ∨ 20000 < Dm.monY y m k) ∧ r = 0 ∧ x = 4) ∨ (-20000 ≤ Dm.monY y m k ∧ Dm.monY y m k ≤ 20000 ∧ r = rangeR (Dm.monDay y m d k) ∧ x = rangeE (Dm.monDay y m d k))
def MonR (n k r x : Int) : Prop := ∃ y m d, Dm.Valid 1 y m d ∧ Dm.dayOf 1 y m d = n ∧ MonD y m d k r x
theorem MonR.one {n k r x r' x' : Int} (h : MonR n k r x) (h' : MonR n k r' x') : r = r' ∧ x = x' := by
  obtain ⟨y, m, d, hv, hd, hm⟩ := h
  obtain ⟨y', m', d', hv', hd', hm'⟩ := h'
  obtain ⟨rfl, rfl, rfl⟩ := Dm.date_one 1 y m d y' m' d' (by omega) (by omega) hv hv' (hd.trans hd'.symm)
  unfold MonD at hm hm'
  rcases hm with ⟨a, rfl, rfl⟩ | ⟨a, b, rfl, rfl⟩ <;> rcases hm' with ⟨a', rfl, rfl⟩ | ⟨a', b', rfl, rfl⟩ <;> first | exact ⟨rfl, rfl⟩ | omega
theorem MonD.four {y m d k r x : Int} (h : MonD y m d k r x) (hx : x ≠ 0) : r = 0 ∧ x = 4 := by
  rcases h with ⟨_, rfl, rfl⟩ | ⟨_, _, rfl, rfl⟩
  · exact ⟨rfl, rfl⟩
  · rcases (show (-4000000 ≤ Dm.monDay y m d k ∧ Dm.monDay y m d k ≤ 4000000) ∨ (Dm.monDay y m d k < -4000000 ∨ 4000000 < Dm.monDay y m d k) by omega) with g | g
    · exact absurd (range_in g.1 g.2).2 hx
    · exact range_out g
theorem MonR.four {n k r x : Int} (h : MonR n k r x) (hx : x ≠ 0) : r = 0 ∧ x = 4 := by
  obtain ⟨_, _, _, _, _, hm⟩ := h
  exact hm.four hx
theorem MonR.in {n k r : Int} (h : MonR n k r 0) : -4000000 ≤ r ∧ r ≤ 4000000 := by
  obtain ⟨y, m, d, _, _, hm⟩ := h
  rcases hm with ⟨_, _, h⟩ | ⟨_, _, rfl, hx⟩
  · exact absurd h (by decide)
  · unfold rangeE at hx
    split at hx
    · rename_i g; rw [(range_in g.1 g.2).1]; exact g
    · exact absurd hx (by decide)
theorem tm_neg {N : Int} (h : N.tmod 12 < 0) : N.tmod 12 + 1 + 12 = N % 12 + 1 ∧ (N - (N % 12 + 1) + 1).tdiv 12 = N / 12 := by
  have h1 := tmod_neg N 12 (by omega) h
  refine ⟨by omega, ?_⟩
  rw [show N - (N % 12 + 1) + 1 = 12 * (N / 12) by omega]
  exact Int.mul_tdiv_cancel_left _ (by decide)
theorem tm_pos {N : Int} (h : ¬ N.tmod 12 < 0) : N.tmod 12 + 1 = N % 12 + 1 ∧ (N - (N % 12 + 1) + 1).tdiv 12 = N / 12 := by
  have h1 := tmod_pos N 12 (by omega) (by omega)
  refine ⟨by omega, ?_⟩
  rw [show N - (N % 12 + 1) + 1 = 12 * (N / 12) by omega]
  exact Int.mul_tdiv_cancel_left _ (by decide)
/-- The five parts of a period. -/
def pf (Y M W D S : Int) (i : Nat) : Int := if i = 0 then Y else if i = 1 then M else if i = 2 then W else if i = 3 then D else S
theorem five_cells (Y M W D S : Int) (w : World) (T : TypeId) (i : Nat) (hi : i < 5) : (w.alloc (.cells #[.int .i64 Y, .int .i64 M, .int .i64 W, .int .i64 D, .int .i64 S] T)).cell? ⟨w.heap.size, i, none⟩ = some (.int .i64 (pf Y M W D S i)) := by
  match i, hi with
  | 0, _ => rw [World.cell?_alloc_at _ _ _ _ (by simp)]; rfl
  | 1, _ => rw [World.cell?_alloc_at _ _ _ _ (by simp)]; rfl
  | 2, _ => rw [World.cell?_alloc_at _ _ _ _ (by simp)]; rfl
  | 3, _ => rw [World.cell?_alloc_at _ _ _ _ (by simp)]; rfl
  | 4, _ => rw [World.cell?_alloc_at _ _ _ _ (by simp)]; rfl
theorem small_iff {Y M W D S : Int} (h : Small (pf Y M W D S)) : (-1000000000000 ≤ Y ∧ Y ≤ 1000000000000) ∧ (-1000000000000 ≤ M ∧ M ≤ 1000000000000) ∧ (-1000000000000 ≤ W ∧ W ≤ 1000000000000) ∧ (-1000000000000 ≤ D ∧ D ≤ 1000000000000) ∧ (-1000000000000 ≤ S ∧ S ≤ 1000000000000) :=
  ⟨h 0 (by omega), h 1 (by omega), h 2 (by omega), h 3 (by omega), h 4 (by omega)⟩
theorem small_mk {Y M W D S : Int} (h1 : -1000000000000 ≤ Y ∧ Y ≤ 1000000000000) (h2 : -1000000000000 ≤ M ∧ M ≤ 1000000000000) (h3 : -1000000000000 ≤ W ∧ W ≤ 1000000000000) (h4 : -1000000000000 ≤ D ∧ D ≤ 1000000000000) (h5 : -1000000000000 ≤ S ∧ S ≤ 1000000000000) : Small (pf Y M W D S) := by
  intro i hi
  match i, hi with
  | 0, _ => exact h1
  | 1, _ => exact h2
  | 2, _ => exact h3
  | 3, _ => exact h4
  | 4, _ => exact h5
/-- Weeks, days and seconds behind a second of a day. -/
def addN (q ts W D S : Int) : Int := (q + (7 * W + D)) * 86400 + ts + S
def AddOk (q ts W D S : Int) : Prop := -4000000 ≤ q + (7 * W + D) ∧ q + (7 * W + D) ≤ 4000000 ∧ -345600000000 ≤ addN q ts W D S ∧ addN q ts W D S ≤ 345600086399
def AddF (q ts W D S r x : Int) : Prop := (AddOk q ts W D S ∧ r = addN q ts W D S ∧ x = 0) ∨ (¬ AddOk q ts W D S ∧ r = 0 ∧ x = 4)
theorem AddF.one {q ts W D S r x r' x' : Int} (h : AddF q ts W D S r x) (h' : AddF q ts W D S r' x') : r = r' ∧ x = x' := by
  unfold AddF at h h'
  rcases h with ⟨a, rfl, rfl⟩ | ⟨a, rfl, rfl⟩ <;> rcases h' with ⟨b, rfl, rfl⟩ | ⟨b, rfl, rfl⟩ <;> first | exact ⟨rfl, rfl⟩ | exact absurd a b | exact absurd b a
/-- The time that comes a period behind another one. -/
def AddR (t Y M W D S r x : Int) : Prop :=
  ((¬ Small (pf Y M W D S) ∨ t < -345600000000 ∨ 345600086399 < t) ∧ r = 0 ∧ x = 4) ∨
  (Small (pf Y M W D S) ∧ -345600000000 ≤ t ∧ t ≤ 345600086399 ∧ ∃ q z, ((Y = 0 ∧ M = 0 ∧ q = t / 86400 ∧ z = 0) ∨ (¬ (Y = 0 ∧ M = 0) ∧ MonR (t / 86400) (12 * Y + M) q z)) ∧ ((z ≠ 0 ∧ r = 0 ∧ x = 4) ∨ (z = 0 ∧ AddF q (t % 86400) W D S r x)))
theorem AddR.one {t Y M W D S r x r' x' : Int} (h : AddR t Y M W D S r x) (h' : AddR t Y M W D S r' x') : r = r' ∧ x = x' := by
  rcases h with ⟨a, rfl, rfl⟩ | ⟨s, a1, a2, q, z, hq, hz⟩ <;> rcases h' with ⟨b, rfl, rfl⟩ | ⟨s', b1, b2, q', z', hq', hz'⟩
  · exact ⟨rfl, rfl⟩
  · rcases a with a | a | a
    · exact absurd s' a
    · omega
    · omega
  · rcases b with b | b | b
    · exact absurd s b
    · omega
    · omega
  · have e : q = q' ∧ z = z' := by
      rcases hq with ⟨y0, m0, rfl, rfl⟩ | ⟨hn, hm⟩ <;> rcases hq' with ⟨y0', m0', rfl, rfl⟩ | ⟨hn', hm'⟩
      · exact ⟨rfl, rfl⟩
      · exact absurd ⟨y0, m0⟩ hn'
      · exact absurd ⟨y0', m0'⟩ hn
      · exact hm.one hm'
    obtain ⟨rfl, rfl⟩ := e
    rcases hz with ⟨z0, rfl, rfl⟩ | ⟨z0, hf⟩ <;> rcases hz' with ⟨z0', rfl, rfl⟩ | ⟨z0', hf'⟩
    · exact ⟨rfl, rfl⟩
    · exact absurd z0' z0
    · exact absurd z0 z0'
    · exact hf.one hf'
/-- So many months behind a time: the day, and whether it is there. -/
def MonOk (y m d k : Int) : Prop := -20000 ≤ Dm.monY y m k ∧ Dm.monY y m k ≤ 20000 ∧ -4000000 ≤ Dm.monDay y m d k ∧ Dm.monDay y m d k ≤ 4000000
theorem addF_zero {q ts : Int} (h1 : -4000000 ≤ q) (h2 : q ≤ 4000000) (h3 : 0 ≤ ts) (h4 : ts < 86400) : AddF q ts 0 0 0 (q * 86400 + ts) 0 := by
  refine .inl ⟨⟨by omega, by omega, by unfold addN; omega, by unfold addN; omega⟩, by unfold addN; omega, rfl⟩
theorem addM {t y m d k : Int} (t1 : -345600000000 ≤ t) (t2 : t ≤ 345600086399) (hv : Dm.Valid 1 y m d) (hd : Dm.dayOf 1 y m d = t / 86400) (k1 : 0 ≤ k) (k2 : k ≤ 1000000000000) :
    (MonOk y m d k → AddR t 0 k 0 0 0 (Dm.monDay y m d k * 86400 + t % 86400) 0) ∧ (¬ MonOk y m d k → AddR t 0 k 0 0 0 0 4) := by
  have hs : Small (pf 0 k 0 0 0) := small_mk (by omega) (by omega) (by omega) (by omega) (by omega)
  by_cases hk : k = 0
  · subst hk
    have e := Dm.mon_zero hv
    have hok : MonOk y m d 0 := by
      obtain ⟨y1, y2, m1, m2, _⟩ := hv
      rw [Dm.greg12] at m2
      have e1 : Dm.monY y m 0 = y := by unfold Dm.monY; omega
      refine ⟨by omega, by omega, by omega, by omega⟩
    refine ⟨fun _ => ?_, fun h => absurd hok h⟩
    rw [e, hd]
    exact .inr ⟨hs, t1, t2, t / 86400, 0, .inl ⟨rfl, rfl, rfl, rfl⟩, .inr ⟨rfl, addF_zero (by omega) (by omega) (by omega) (by omega)⟩⟩
  · refine ⟨fun h => ?_, fun h => ?_⟩
    · obtain ⟨a, b, c, e⟩ := h
      have hm : MonR (t / 86400) (12 * 0 + k) (Dm.monDay y m d k) 0 := by
        rw [show 12 * 0 + k = k by omega]
        exact ⟨y, m, d, hv, hd, .inr ⟨a, b, (range_in c e).1.symm, (range_in c e).2.symm⟩⟩
      exact .inr ⟨hs, t1, t2, _, 0, .inr ⟨fun h => hk h.2, hm⟩, .inr ⟨rfl, addF_zero c e (by omega) (by omega)⟩⟩
    · have hm : MonR (t / 86400) (12 * 0 + k) 0 4 := by
        rw [show 12 * 0 + k = k by omega]
        by_cases g : -20000 ≤ Dm.monY y m k ∧ Dm.monY y m k ≤ 20000
        · have ho : Dm.monDay y m d k < -4000000 ∨ 4000000 < Dm.monDay y m d k := by
            by_cases g2 : -4000000 ≤ Dm.monDay y m d k ∧ Dm.monDay y m d k ≤ 4000000
            · exact absurd ⟨g.1, g.2, g2.1, g2.2⟩ h
            · omega
          exact ⟨y, m, d, hv, hd, .inr ⟨g.1, g.2, (range_out ho).1.symm, (range_out ho).2.symm⟩⟩
        · exact ⟨y, m, d, hv, hd, .inl ⟨by omega, rfl, rfl⟩⟩
      exact .inr ⟨hs, t1, t2, 0, 4, .inr ⟨fun h => hk h.2, hm⟩, .inl ⟨by decide, rfl, rfl⟩⟩
/-- What a number of months that is added answers. -/
theorem addM_eq {t y m d k r x : Int} (t1 : -345600000000 ≤ t) (t2 : t ≤ 345600086399) (hv : Dm.Valid 1 y m d) (hd : Dm.dayOf 1 y m d = t / 86400) (k1 : 0 ≤ k) (k2 : k ≤ 1000000000000) (h : AddR t 0 k 0 0 0 r x) :
    (MonOk y m d k ∧ r = Dm.monDay y m d k * 86400 + t % 86400 ∧ x = 0) ∨ (¬ MonOk y m d k ∧ r = 0 ∧ x = 4) := by
  have ha := addM t1 t2 hv hd k1 k2
  by_cases ho : MonOk y m d k
  · have := h.one (ha.1 ho); exact .inl ⟨ho, this.1, this.2⟩
  · have := h.one (ha.2 ho); exact .inr ⟨ho, this.1, this.2⟩
end Go.Proofs.YtpchkfnfipdilaaDoor
