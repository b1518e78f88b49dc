/- Levelling: plain. -/
import Derived.Test.YthhaopdimilmcaaDoorLevE
namespace Go.Proofs.YthhaopdimilmcaaDoor
open Go.RowKit
/-- A task may have its place now. -/
def Ready (T : Plan) (z : Nat → Bool) (i : Nat) : Prop := z i = false ∧ ∀ k, k < T.lc i → z (T.to i k) = true
instance (T : Plan) (z : Nat → Bool) (i : Nat) : Decidable (Ready T z i) := by unfold Ready; infer_instance
/-- The first of the ready whose latest beginning is least; or -1. -/
def pickI (T : Plan) (q : Nat → Int) (z : Nat → Bool) : Nat → Int
  | 0 => -1
  | k + 1 => if Ready T z k ∧ (pickI T q z k < 0 ∨ q k < q (pickI T q z k).toNat) then (k : Int) else pickI T q z k
theorem pickI_ways (T : Plan) (q : Nat → Int) (z : Nat → Bool) : ∀ k, (pickI T q z k = -1 ∧ ∀ j, j < k → ¬ Ready T z j) ∨ ∃ j, j < k ∧ pickI T q z k = ((j : Nat) : Int) ∧ Ready T z j := by
  intro k
  induction k with
  | zero => exact .inl ⟨rfl, fun j hj => absurd hj (Nat.not_lt_zero j)⟩
  | succ k ih =>
    unfold pickI
    by_cases h : Ready T z k ∧ (pickI T q z k < 0 ∨ q k < q (pickI T q z k).toNat)
    · rw [if_pos h]; exact .inr ⟨k, by omega, rfl, h.1⟩
    · rw [if_neg h]
      rcases ih with ⟨h1, h2⟩ | ⟨j, h1, h2, h3⟩
      · refine .inl ⟨h1, fun j hj hr => ?_⟩
        by_cases e : j = k
        · subst e; exact h ⟨hr, .inl (by omega)⟩
        · exact h2 j (by omega) hr
      · exact .inr ⟨j, by omega, h2, h3⟩
theorem pickI_congr {T : Plan} {q q' : Nat → Int} {n : Nat} (hq : ∀ i, i < n → q i = q' i) (z : Nat → Bool) : ∀ k, k ≤ n → pickI T q z k = pickI T q' z k := by
  intro k
  induction k with
  | zero => intro _; rfl
  | succ k ih =>
    intro hk
    unfold pickI
    rw [ih (by omega), hq k (by omega)]
    rcases pickI_ways T q' z k with ⟨h1, _⟩ | ⟨j, h1, h2, _⟩
    · rw [h1]; simp
    · rw [h2, Int.toNat_natCast, hq j (by omega)]
/-- Levelling: so many tasks have their places. -/
inductive Lev (T : Plan) (hn : Nat) (hv q : Nat → Int) : Nat → (Nat → Int) → (Nat → Int) → (Nat → Bool) → Prop
  | start : Lev T hn hv q 0 (fun _ => 0) (fun _ => 0) (fun _ => false)
  | step {p : Nat} {f t : Nat → Int} {z : Nat → Bool} {i : Nat} {s : Int} (h : Lev T hn hv q p f t z) (hi : pickI T q z T.n = (i : Int)) (hs : Srch (FitP T f t z T.n hn hv i) (fun x => laterF f t z x T.n) (T.mx f i (T.lc i)) s) : Lev T hn hv q (p + 1) (Plan.upd f i s) (Plan.upd t i (s + T.len i)) (updZ z i)
theorem Lev.one {T : Plan} {hn : Nat} {hv q q' : Nat → Int} (hq : ∀ i, i < T.n → q i = q' i) {p : Nat} {f t : Nat → Int} {z : Nat → Bool} (h : Lev T hn hv q p f t z) : ∀ {f' t' : Nat → Int} {z' : Nat → Bool}, Lev T hn hv q' p f' t' z' → f = f' ∧ t = t' ∧ z = z' := by
  induction h with
  | start => intro f' t' z' h'; cases h'; exact ⟨rfl, rfl, rfl⟩
  | step h hi hs ih =>
    intro f' t' z' h'
    cases h' with
    | step h2 hi2 hs2 =>
      obtain ⟨rfl, rfl, rfl⟩ := ih h2
      rw [pickI_congr hq _ _ (Nat.le_refl _), hi2] at hi
      obtain rfl := Int.ofNat_inj.1 hi
      obtain rfl := hs.one hs2
      exact ⟨rfl, rfl, rfl⟩
def cntB (z : Nat → Bool) : Nat → Nat
  | 0 => 0
  | k + 1 => if z k = true then cntB z k + 1 else cntB z k
theorem cntB_le (z : Nat → Bool) : ∀ k, cntB z k ≤ k := by
  intro k
  induction k with
  | zero => exact Nat.le_refl _
  | succ k ih => unfold cntB; split <;> omega
theorem cntB_all (z : Nat → Bool) : ∀ k, cntB z k = k → ∀ j, j < k → z j = true := by
  intro k
  induction k with
  | zero => intro _ j hj; exact absurd hj (Nat.not_lt_zero j)
  | succ k ih =>
    intro h j hj
    unfold cntB at h
    have hle := cntB_le z k
    by_cases hz : z k = true
    · rw [if_pos hz] at h
      by_cases e : j = k
      · subst e; exact hz
      · exact ih (by omega) j (by omega)
    · rw [if_neg hz] at h; omega
theorem all_cntB (z : Nat → Bool) : ∀ k, (∀ j, j < k → z j = true) → cntB z k = k := by
  intro k
  induction k with
  | zero => intro _; rfl
  | succ k ih => intro h; unfold cntB; rw [if_pos (h k (by omega)), ih fun j hj => h j (by omega)]
theorem cntB_upd (z : Nat → Bool) (i : Nat) (hz : z i = false) : ∀ k, cntB (updZ z i) k = if i < k then cntB z k + 1 else cntB z k := by
  intro k
  induction k with
  | zero => rw [if_neg (Nat.not_lt_zero i)]; rfl
  | succ k ih =>
    have hL : cntB (updZ z i) (k + 1) = if updZ z i k = true then cntB (updZ z i) k + 1 else cntB (updZ z i) k := rfl
    have hR : cntB z (k + 1) = if z k = true then cntB z k + 1 else cntB z k := rfl
    rw [hL, hR, ih]
    by_cases e : k = i
    · subst e
      rw [if_pos (show updZ z k k = true by simp [updZ]), if_neg (show ¬ k < k by omega), if_pos (show k < k + 1 by omega), if_neg (show ¬ z k = true by simp [hz])]
    · rw [show updZ z i k = z k by simp [updZ, e]]
      by_cases h1 : i < k
      · rw [if_pos h1, if_pos (show i < k + 1 by omega)]; split <;> omega
      · rw [if_neg h1, if_neg (show ¬ i < k + 1 by omega)]
theorem lay_base (T : Plan) (f t : Nat → Int) (z : Nat → Bool) (r : Nat) (x s : Int) : ∀ k, lay T f t z r x s k = lay T f t z r x 0 k + s := by
  intro k
  induction k with
  | zero => show s = 0 + s; omega
  | succ k ih => unfold lay; rw [ih]; split <;> omega
theorem lay_upd (T : Plan) (f t : Nat → Int) (z : Nat → Bool) (r : Nat) (x : Int) (i : Nat) (s e : Int) (hz : z i = false) : ∀ k, lay T (Plan.upd f i s) (Plan.upd t i e) (updZ z i) r x 0 k = lay T f t z r x 0 k + if i < k ∧ s ≤ x ∧ x < e then T.use i r else 0 := by
  intro k
  induction k with
  | zero => rw [if_neg (by omega)]; rfl
  | succ k ih =>
    unfold lay
    rw [ih]
    by_cases h : k = i
    · subst h
      have h1 : Act (Plan.upd f k s) (Plan.upd t k e) (updZ z k) x k ↔ s ≤ x ∧ x < e := by simp [Act, Plan.upd, updZ]
      have h2 : ¬ Act f t z x k := by simp [Act, hz]
      rw [if_neg h2, if_neg (show ¬ (k < k ∧ s ≤ x ∧ x < e) by omega)]
      by_cases h3 : s ≤ x ∧ x < e
      · rw [if_pos (h1.2 h3), if_pos ⟨by omega, h3⟩]; omega
      · rw [if_neg (fun h => h3 (h1.1 h)), if_neg (fun h => h3 h.2)]
    · have h1 : Act (Plan.upd f i s) (Plan.upd t i e) (updZ z i) x k ↔ Act f t z x k := by simp [Act, Plan.upd, updZ, h]
      have h4 : (i < k + 1 ∧ s ≤ x ∧ x < e) ↔ (i < k ∧ s ≤ x ∧ x < e) := by omega
      by_cases h2 : Act f t z x k
      · rw [if_pos (h1.2 h2), if_pos h2]
        by_cases h3 : i < k ∧ s ≤ x ∧ x < e
        · rw [if_pos h3, if_pos (h4.2 h3)]; omega
        · rw [if_neg h3, if_neg (fun h => h3 (h4.1 h))]; omega
      · rw [if_neg (fun h => h2 (h1.1 h)), if_neg h2]
        by_cases h3 : i < k ∧ s ≤ x ∧ x < e
        · rw [if_pos h3, if_pos (h4.2 h3)]
        · rw [if_neg h3, if_neg (fun h => h3 (h4.1 h))]
theorem lay_mono {T : Plan} (hU : ∀ j r, 0 ≤ T.use j r ∧ T.use j r ≤ 1000000) {f t : Nat → Int} {z : Nat → Bool} {r : Nat} {x y : Int} (s : Int) : ∀ k, (∀ j, j < k → Act f t z x j → Act f t z y j) → lay T f t z r x s k ≤ lay T f t z r y s k := by
  intro k
  induction k with
  | zero => intro _; exact Int.le_refl _
  | succ k ih =>
    intro h
    have h1 := ih fun j hj => h j (by omega)
    have h2 := hU k r
    unfold lay
    by_cases h3 : Act f t z x k
    · rw [if_pos h3, if_pos (h k (by omega) h3)]; omega
    · rw [if_neg h3]; split <;> omega
/-- The last of the times asked at, not behind a time. -/
theorem last_at {f : Nat → Int} {z : Nat → Bool} {x y u : Int} (h1 : x ≤ u) (h2 : u < y) : ∀ k, ∃ v, v ∈ atL f z x y k ∧ v ≤ u ∧ x ≤ v ∧ ∀ j, j < k → z j = true → f j ≤ u → f j ≤ v := by
  intro k
  induction k with
  | zero => exact ⟨x, by simp [atL], h1, Int.le_refl _, fun j hj => absurd hj (Nat.not_lt_zero j)⟩
  | succ k ih =>
    obtain ⟨v, g1, g2, g3, g4⟩ := ih
    have hmem : ∀ v, v ∈ atL f z x y k → v ∈ atL f z x y (k + 1) := fun v hv => by unfold atL; split <;> simp [hv]
    by_cases h : z k = true ∧ f k ≤ u ∧ v < f k
    · refine ⟨f k, ?_, h.2.1, by omega, fun j hj hz hf => ?_⟩
      · unfold atL
        rw [if_pos ⟨h.1, by omega, by omega⟩]; simp
      · by_cases e : j = k
        · subst e; exact Int.le_refl _
        · have := g4 j (by omega) hz hf; omega
    · refine ⟨v, hmem v g1, g2, g3, fun j hj hz hf => ?_⟩
      by_cases e : j = k
      · subst e
        refine Classical.byContradiction fun hn => h ⟨hz, hf, by omega⟩
      · exact g4 j (by omega) hz hf
structure LevI (T : Plan) (hn : Nat) (hv : Nat → Int) (p : Nat) (f t : Nat → Int) (z : Nat → Bool) : Prop where
  cnt : cntB z T.n = p
  bd : ∀ j, j < T.n → z j = true → 0 ≤ f j ∧ f j ≤ 3000000 * (p : Int) ∧ t j = f j + T.len j
  feas : ∀ j, j < T.n → z j = true → T.nb j ≤ f j ∧ ∀ k, k < T.lc j → z (T.to j k) = true ∧ f (T.to j k) + T.wait j k ≤ f j
  enough : ∀ r, r < hn → ∀ u, lay T f t z r u 0 T.n ≤ hv r
theorem use_bd {T : Plan} (h : T.Ok) (j r : Nat) : 0 ≤ T.use j r ∧ T.use j r ≤ 1000000 := by
  unfold Plan.use
  by_cases hh : j < T.n ∧ r < T.uc j
  · rw [if_pos hh]; exact (h.task j hh.1).use r hh.2
  · rw [if_neg hh]; omega
theorem mx_hi {T : Plan} (hT : T.Ok) {f : Nat → Int} {z : Nat → Bool} {i : Nat} (hi : i < T.n) {M : Int} (hM : 0 ≤ M) (hz : ∀ j, j < T.n → z j = true → 0 ≤ f j ∧ f j ≤ M) (hl : ∀ k, k < T.lc i → z (T.to i k) = true) : 0 ≤ T.mx f i (T.lc i) ∧ T.mx f i (T.lc i) ≤ M + 2000000 := by
  have h1 := (hT.task i hi).head.2.1
  constructor
  · have := ((Plan.mx_le (T := T) (s := f) (i := i) (T.lc i)).1 (Int.le_refl _)).1; omega
  · refine (Plan.mx_le _).2 ⟨by omega, fun k hk => ?_⟩
    have h2 := hz _ (Plan.to_lt hT hi hk).1 (hl k hk)
    have h3 := Plan.wait_bd hT hi hk
    omega
theorem LevI.step {T : Plan} (hT : T.Ok) (hU : ∀ j r, 0 ≤ T.use j r ∧ T.use j r ≤ 1000000) {hn : Nat} {hv q : Nat → Int} {p : Nat} {f t : Nat → Int} {z : Nat → Bool} (h : LevI T hn hv p f t z) {i : Nat} (hi : pickI T q z T.n = (i : Int)) {s : Int} (hs : Srch (FitP T f t z T.n hn hv i) (fun x => laterF f t z x T.n) (T.mx f i (T.lc i)) s) (hsb : s ≤ 3000000 * (p : Int) + 3000000) : LevI T hn hv (p + 1) (Plan.upd f i s) (Plan.upd t i (s + T.len i)) (updZ z i) := by
  obtain ⟨j, hj, h1, hr⟩ : ∃ j, j < T.n ∧ pickI T q z T.n = ((j : Nat) : Int) ∧ Ready T z j := by
    rcases pickI_ways T q z T.n with ⟨h1, _⟩ | h1
    · omega
    · exact h1
  rw [hi] at h1
  obtain rfl := Int.ofNat_inj.1 h1
  have hge : T.mx f i (T.lc i) ≤ s := hs.le fun x => laterF_ge f t z x T.n
  have hmx := (Plan.mx_le (T := T) (s := f) (i := i) (T.lc i)).1 hge
  have hnb := (hT.task i hj).head.2.1
  have hne : ∀ k, k < T.lc i → T.to i k ≠ i := fun k hk => (Plan.to_lt hT hj hk).2.1
  refine ⟨?_, fun k hk hz => ?_, fun k hk hz => ?_, fun r hrn u => ?_⟩
  · rw [cntB_upd z i hr.1, if_pos hj, h.cnt]
  · by_cases e : k = i
    · subst e
      rw [Plan.upd_at, Plan.upd_at]
      exact ⟨by omega, by omega, rfl⟩
    · rw [Plan.upd_ne _ _ e, Plan.upd_ne _ _ e]
      have := h.bd k hk (by simpa [updZ, e] using hz)
      exact ⟨this.1, by omega, this.2.2⟩
  · by_cases e : k = i
    · subst e
      rw [Plan.upd_at]
      refine ⟨hmx.1, fun m hm => ⟨?_, ?_⟩⟩
      · have := hr.2 m hm
        unfold updZ; split
        · rfl
        · exact this
      · rw [Plan.upd_ne _ _ (hne m hm)]; exact hmx.2 m hm
    · rw [Plan.upd_ne _ _ e]
      obtain ⟨g1, g2⟩ := h.feas k hk (by simpa [updZ, e] using hz)
      refine ⟨g1, fun m hm => ?_⟩
      obtain ⟨g3, g4⟩ := g2 m hm
      have hni : T.to k m ≠ i := fun e2 => by rw [e2, hr.1] at g3; exact Bool.noConfusion g3
      rw [Plan.upd_ne _ _ hni]
      exact ⟨by simp [updZ, g3], g4⟩
  · rw [lay_upd T f t z r u i s _ hr.1]
    by_cases hact : i < T.n ∧ s ≤ u ∧ u < s + T.len i
    · rw [if_pos hact]
      by_cases h0 : T.use i r = 0
      · rw [h0]; have := h.enough r hrn u; omega
      · obtain ⟨v, g1, g2, g3, g4⟩ := last_at (f := f) (z := z) hact.2.1 hact.2.2 T.n
        have h2 := hs.ends r hrn h0 (by omega) v g1
        have h3 : lay T f t z r u (T.use i r) T.n ≤ lay T f t z r v (T.use i r) T.n := lay_mono hU _ T.n fun j hj ha => ⟨ha.1, g4 j hj ha.1 ha.2.1, by have := ha.2.2; omega⟩
        rw [lay_base] at h3
        omega
    · rw [if_neg hact]; have := h.enough r hrn u; omega
theorem LevI.start {T : Plan} {hn : Nat} {hv : Nat → Int} (h0 : ∀ r, r < hn → 0 ≤ hv r) : LevI T hn hv 0 (fun _ => 0) (fun _ => 0) (fun _ => false) := by
  refine ⟨?_, fun j _ hz => Bool.noConfusion hz, fun j _ hz => Bool.noConfusion hz, fun r hr u => ?_⟩
  · have : ∀ k, cntB (fun _ => false) k = 0 := by
      intro k
      induction k with
      | zero => rfl
      | succ k ih => unfold cntB; rw [if_neg (by simp), ih]
    exact this _
  · rw [lay_none T.n fun j _ ha => Bool.noConfusion ha.1]; exact h0 r hr
/-- While tasks are left, one is ready. -/
theorem LevI.ready {T : Plan} (hT : T.Ok) {hn : Nat} {hv : Nat → Int} {p : Nat} {f t : Nat → Int} {z : Nat → Bool} (h : LevI T hn hv p f t z) (hp : p < T.n) (q : Nat → Int) : ∃ i, i < T.n ∧ pickI T q z T.n = ((i : Nat) : Int) ∧ Ready T z i := by
  rcases pickI_ways T q z T.n with ⟨_, h2⟩ | h1
  · obtain ⟨o, ho, hl⟩ := hT.full
    have hall : ∀ i, i ∈ o → z i = true := ho.all fun i hi _ hk => by
      refine Classical.byContradiction fun hn => h2 i hi ⟨by simpa using hn, hk⟩
    have := all_cntB z T.n fun j hj => hall j (ho.full hl hj)
    have := h.cnt
    omega
  · exact h1
theorem LevI.done {T : Plan} {hn : Nat} {hv : Nat → Int} {f t : Nat → Int} {z : Nat → Bool} (h : LevI T hn hv T.n f t z) : ∀ j, j < T.n → z j = true := cntB_all z T.n h.cnt
theorem LevI.feasible {T : Plan} {hn : Nat} {hv : Nat → Int} {f t : Nat → Int} {z : Nat → Bool} (h : LevI T hn hv T.n f t z) : T.Feas f := fun i hi => by
  obtain ⟨g1, g2⟩ := h.feas i hi (h.done i hi)
  exact ⟨g1, fun k hk => (g2 k hk).2⟩
end Go.Proofs.YthhaopdimilmcaaDoor
