/- The law PlanTimes, in plain Lean: what the two sides answer agrees. -/
import Derived.Test.YthhaopdimilmcaaDoorRefH
import Derived.Test.YthhaopdimilmcaaDoorRefI
namespace Go.Proofs.YthhaopdimilmcaaDoor
open Go.RowKit
theorem nil_spans (w : World) (b : Nat) (f t : Nat → Int) : SpansV w b (.slice none 0 0) 0 f t := ⟨none, 0, rfl, fun h => absurd h (Nat.lt_irrefl 0)⟩
theorem nil_ints (w : World) (b : Nat) : IntsL w b (.slice none 0 0) [] := ⟨none, 0, rfl, Nat.le_refl _, by simp [maxLen], fun h => absurd h (Nat.lt_irrefl 0)⟩
def SameS (w : World) (v v' : Value) : Prop := ∃ n b b' f t f' t', n ≤ 1000000 ∧ SpansV w b v n f t ∧ SpansV w b' v' n f' t' ∧ (∀ i, i < n → f i = f' i) ∧ ∀ i, i < n → t i = t' i
def SameI (w : World) (v v' : Value) : Prop := ∃ (l : List Nat) (b b' : Nat), l.length ≤ 1000000 ∧ IntsL w b v l ∧ IntsL w b' v' l
theorem own_spans {w : World} {b B n : Nat} {f t : Nat → Int} (hb : b ≤ B) (h : OwnS w B n f t) : SpansV w b (.slice (some ⟨B, 0, none⟩) n n) n f t := ⟨_, n, rfl, fun _ => ⟨B, rfl, hb, h⟩⟩
theorem early_agree {T : Plan} {b b' : Nat} {v v' : Value} {x x' : Int} {w : World} (h : EarlyV T b v x w) (h' : EarlyV T b' v' x' w) : x = x' ∧ SameS w v v' := by
  rcases h with ⟨h1, rfl, rfl⟩ | ⟨h1, rfl, B, s, rfl, h2, h3, h4, _⟩
  · obtain ⟨rfl, rfl⟩ := h'.err h1
    exact ⟨rfl, 0, 0, 0, fun _ => 0, fun _ => 0, fun _ => 0, fun _ => 0, by omega, nil_spans _ _ _ _, nil_spans _ _ _ _, fun i hi => absurd hi (Nat.not_lt_zero i), fun i hi => absurd hi (Nat.not_lt_zero i)⟩
  · obtain ⟨rfl, B', s', rfl, g2, g3, g4, _⟩ := h'.ok h1
    have hok := Plan.chk_ok h1
    have hu := Plan.Fix.unique hok.full h4 g4
    exact ⟨rfl, T.n, b, b', _, _, _, _, by have := hok.size; omega, own_spans h2 h3, own_spans g2 g3, hu, fun i hi => by rw [hu i hi]⟩
theorem end_agree {T : Plan} {b b' : Nat} {v v' : Value} {x x' : Int} {w : World} (h : EndV T b v x w) (h' : EndV T b' v' x' w) : x = x' ∧ v = v' ∧ ∃ N : Int, v = .int .i64 N ∧ 0 ≤ N ∧ N ≤ 122000000 := by
  rcases h with ⟨h1, rfl, rfl⟩ | ⟨h1, rfl, s, rfl, h2, h3⟩
  · obtain ⟨rfl, rfl⟩ := h'.okE h1
    exact ⟨rfl, rfl, 0, rfl, by omega, by omega⟩
  · obtain ⟨rfl, rfl⟩ := h'.ok h1 h2
    have := last_bd (Plan.chk_ok h1) h3 T.n (Nat.le_refl _)
    exact ⟨rfl, rfl, _, rfl, this.1, this.2⟩
theorem late_agree {y : Int} {T : Plan} {b b' : Nat} {v v' : Value} {x x' : Int} {w : World} (h : LateV y T b v x w) (h' : RLateV y T b' v' x' w) : x = x' ∧ SameS w v v' := by
  have hnil : ∀ w, SameS w (.slice none 0 0) (.slice none 0 0) := fun w => ⟨0, 0, 0, fun _ => 0, fun _ => 0, fun _ => 0, fun _ => 0, by omega, nil_spans _ _ _ _, nil_spans _ _ _ _, fun i hi => absurd hi (Nat.not_lt_zero i), fun i hi => absurd hi (Nat.not_lt_zero i)⟩
  rcases h with ⟨h1, rfl, rfl⟩ | ⟨h1, s, h2, h3⟩
  · rcases h' with ⟨_, rfl, rfl⟩ | ⟨g1, _⟩
    · exact ⟨rfl, hnil _⟩
    · exact absurd g1 h1
  · rcases h' with ⟨g1, _⟩ | ⟨_, s', g2, g3⟩
    · exact absurd h1 g1
    have hok := Plan.chk_ok h1
    have he := Plan.last_congr (T := T) T.n (Plan.Fix.unique hok.full h2 g2)
    rcases h3 with ⟨h3, rfl, rfl⟩ | ⟨h3, h4, rfl, rfl⟩ | ⟨h3, h4, rfl, B, q, rfl, h6, h7, h8, _⟩
    · rcases g3 with ⟨_, rfl, rfl⟩ | ⟨g3, _⟩ | ⟨g3, _⟩
      · exact ⟨rfl, hnil _⟩
      · omega
      · omega
    · rcases g3 with ⟨g3, _⟩ | ⟨_, _, rfl, rfl⟩ | ⟨_, g4, _⟩
      · omega
      · exact ⟨rfl, hnil _⟩
      · omega
    · rcases g3 with ⟨g3, _⟩ | ⟨_, g4, _⟩ | ⟨_, _, rfl, q', g5, g6⟩
      · omega
      · omega
      · have hu := h8.unique g6
        exact ⟨rfl, T.n, b, b', _, _, _, _, by have := hok.size; omega, own_spans h6 h7, g5, hu, fun i hi => by rw [hu i hi]⟩
theorem critL_congr {s q s' q' : Nat → Int} : ∀ k, (∀ i, i < k → s i = s' i) → (∀ i, i < k → q i = q' i) → Plan.critL s q k = Plan.critL s' q' k := by
  intro k
  induction k with
  | zero => intro _ _; rfl
  | succ k ih =>
    intro h1 h2
    unfold Plan.critL
    rw [ih (fun i hi => h1 i (by omega)) (fun i hi => h2 i (by omega)), h1 k (by omega), h2 k (by omega)]
theorem crit_ok {T : Plan} {b : Nat} {v : Value} {x : Int} {w : World} (h : CritV T b v x w) (hc : T.chk = 0) : x = 0 ∧ ∃ s q, Plan.Fix T s ∧ Plan.Latest T (Plan.last T s T.n) q ∧ IntsL w b v (Plan.critL s q T.n) := by
  rcases h with ⟨h, _⟩ | ⟨_, h⟩
  · exact absurd hc h
  · exact h
theorem crit_agree {T : Plan} {b b' : Nat} {v v' : Value} {x x' : Int} {w : World} (h : CritV T b v x w) (h' : CritV T b' v' x' w) : x = x' ∧ SameI w v v' := by
  rcases h with ⟨h1, rfl, rfl⟩ | ⟨h1, rfl, s, q, h2, h3, h4⟩
  · rcases h' with ⟨_, rfl, rfl⟩ | ⟨g1, _⟩
    · exact ⟨rfl, [], 0, 0, by simp, nil_ints _ _, nil_ints _ _⟩
    · exact absurd g1 h1
  · obtain ⟨rfl, s', q', g2, g3, g4⟩ := crit_ok h' h1
    have hok := Plan.chk_ok h1
    have hu := Plan.Fix.unique hok.full h2 g2
    have he := Plan.last_congr (T := T) T.n hu
    rw [← he] at g3
    have hq := h3.unique g3
    rw [← critL_congr T.n hu hq] at g4
    exact ⟨rfl, _, b, b', by have := Plan.critL_len s q T.n; have := hok.size; omega, h4, g4⟩
theorem amx_congr {T : Plan} {s s' : Nat → Int} (hn : 0 < T.n) (h : ∀ i, i < T.n → s i = s' i) : ∀ k, k ≤ T.n → Plan.amx T s k = Plan.amx T s' k := by
  intro k
  induction k with
  | zero => intro _; rfl
  | succ k ih =>
    intro hk
    have h1 := ih (by omega)
    have h2 := Plan.amx_lt (T := T) (s := s) hn k (by omega)
    unfold Plan.amx
    rw [← h1, h _ h2, h k (by omega)]
theorem pathL_congr {T : Plan} (hT : T.Ok) {s s' : Nat → Int} (h : ∀ i, i < T.n → s i = s' i) {out : List Nat} (hp : Plan.PathL T s out) : Plan.PathL T s' out := by
  have h0 := hp.1.1
  have hn : 0 < T.n := Nat.lt_of_le_of_lt (Nat.zero_le _) (hp.1.lt h0)
  refine ⟨⟨h0, hp.1.2.1, fun j hj => ?_⟩, by rw [hp.2.1, amx_congr hn h T.n (Nat.le_refl _)], by rw [← h _ (hp.1.lt (by omega))]; exact hp.2.2⟩
  have ha := hp.1.lt (show j < out.length by omega)
  have hb := hp.1.lt hj
  obtain ⟨h1, k, h2, h3, h4, h5⟩ := hp.1.2.2 j hj
  exact ⟨by rw [← h _ ha]; exact h1, k, h2, h3, by rw [← h _ ha, ← h _ hb]; exact h4, fun i hi => by rw [← h _ ha, ← h _ (Plan.to_lt hT ha (show i < T.lc (out.getD j 0) by omega)).1]; exact h5 i hi⟩
theorem path_agree {T : Plan} {b b' : Nat} {v v' : Value} {x x' : Int} {w : World} (h : PathV T b v x w) (h' : PathV T b' v' x' w) : x = x' ∧ SameI w v v' := by
  rcases h with ⟨h1, rfl, rfl⟩ | ⟨h1, rfl, s, h2, h3, h4⟩
  · rcases h' with ⟨_, rfl, rfl⟩ | ⟨g1, _⟩
    · exact ⟨rfl, [], 0, 0, by simp, nil_ints _ _, nil_ints _ _⟩
    · exact absurd g1 h1
  · rcases h' with ⟨g1, _⟩ | ⟨_, rfl, s', g2, g3, g4⟩
    · exact absurd h1 g1
    have hok := Plan.chk_ok h1
    have hu := Plan.Fix.unique hok.full h2 g2
    refine ⟨rfl, ?_⟩
    rcases h4 with ⟨h4, rfl⟩ | ⟨h4, out, h5, h6⟩
    · rcases g4 with ⟨_, rfl⟩ | ⟨g4, _⟩
      · exact ⟨[], 0, 0, by simp, nil_ints _ _, nil_ints _ _⟩
      · omega
    · rcases g4 with ⟨g4, _⟩ | ⟨_, out', g5, g6⟩
      · omega
      · have e := (pathL_congr hok hu h5).one g5
        subst e
        have hl : out.length ≤ T.n := by
          obtain ⟨o, ho, hol⟩ := hok.full
          have h7 := h5.1
          have hpos : ∀ j, j < out.length → Plan.pos o (out.getD j 0) + j ≤ Plan.pos o (out.getD 0 0) := by
            intro j
            induction j with
            | zero => intro _; omega
            | succ j ih =>
              intro hj
              have h8 := ih (by omega)
              obtain ⟨_, k, h9, h10, _⟩ := h7.2.2 j hj
              have h11 := Plan.Topo.pos ho (ho.full hol (h7.lt (show j < out.length by omega))) h9
              rw [h10] at h11
              omega
          have h12 := hpos (out.length - 1) (by have := h7.1; omega)
          have h13 := Plan.pos_lt (ho.full hol (h7.lt h7.1))
          have := h7.1
          omega
        exact ⟨_, b, b', by rw [List.length_reverse]; have := hok.size; omega, h6, g6⟩
end Go.Proofs.YthhaopdimilmcaaDoor
