/- Plain: what is printed is read back: digits, periods (no program in sight). -/
import Derived.Test.YtkfpnlenmdlmjaaGreatDoorZG2
import Derived.Test.YtkfpnlenmdlmjaaGreatDoorZG10
namespace Bk
open Go Scm
/-- Digits alone. -/
def DigL (l : List UInt8) : Prop := ∀ c, c ∈ l → 48 ≤ c.toNat ∧ c.toNat ≤ 57
def valD (l : List UInt8) : Nat := l.foldl (fun a c => 10 * a + (c.toNat - 48)) 0
theorem valD_snoc (l : List UInt8) (c : UInt8) : valD (l ++ [c]) = 10 * valD l + (c.toNat - 48) := by unfold valD; rw [List.foldl_append]; rfl
theorem foldl_zeros (k : Nat) (l : List UInt8) : (List.replicate k 48 ++ l).foldl (fun (a : Nat) (c : UInt8) => 10 * a + (c.toNat - 48)) 0 = l.foldl (fun a c => 10 * a + (c.toNat - 48)) 0 := by
  induction k with
  | zero => rfl
  | succ k ih => rw [List.replicate_succ, List.cons_append, List.foldl_cons]; exact ih
theorem valD_zeros (k : Nat) (l : List UInt8) : valD (List.replicate k 48 ++ l) = valD l := foldl_zeros k l
theorem dec_dig : ∀ u : Nat, DigL (Lib.decDigits u) ∧ valD (Lib.decDigits u) = u ∧ 1 ≤ (Lib.decDigits u).length := by
  intro u
  induction u using Nat.strongRecOn with
  | ind u ih =>
    rw [Lib.decDigits]
    split
    · rename_i h
      refine ⟨fun c hc => ?_, ?_, by simp⟩
      · simp at hc; rw [hc]; simp; omega
      · unfold valD; simp; omega
    · rename_i h
      obtain ⟨h1, h2, h3⟩ := ih (u / 10) (by omega)
      refine ⟨fun c hc => ?_, ?_, by simp⟩
      · rcases List.mem_append.1 hc with hc | hc
        · exact h1 c hc
        · simp at hc; rw [hc]; simp; omega
      · rw [valD_snoc, h2]; simp; omega
theorem dec_len : ∀ (w u : Nat), u < 10 ^ (w + 1) → (Lib.decDigits u).length ≤ w + 1 := by
  intro w
  induction w with
  | zero =>
    intro u h
    rw [Lib.decDigits, dif_pos (by simpa using h)]
    simp
  | succ w ih =>
    intro u h
    rw [Lib.decDigits]
    split
    · simp
    · rw [List.length_append]
      have h2 := ih (u / 10) (by rw [Nat.pow_succ] at h; omega)
      simp
      omega
theorem cnt_app {ds t : List UInt8} (h : DigL ds) : cnt (ds ++ t) = ds.length + cnt t := by
  induction ds with
  | nil => simp
  | cons c ds ih =>
    have hc := h c (List.mem_cons_self ..)
    rw [List.cons_append, cnt, dig_ok hc.1 hc.2, if_pos rfl, ih (fun x hx => h x (List.mem_cons_of_mem _ hx)), List.length_cons]
    omega
theorem cnt_stop {c : UInt8} {t : List UInt8} (h : dig c = false) : cnt (c :: t) = 0 := by rw [cnt, h]; rfl
theorem numF_take {l : List UInt8} {k : Nat} : ∀ n, k + n ≤ l.length → numF l k n = valD ((l.drop k).take n) := by
  intro n
  induction n with
  | zero => intro _; simp [numF, valD]
  | succ n ih =>
    intro h
    rw [numF, ih (by omega), List.take_add_one, List.getElem?_drop, List.getElem?_eq_getElem (by omega), Option.toList_some, valD_snoc, List.getD, List.getElem?_eq_getElem (by omega)]
    rfl
theorem numF_seg {l ds t : List UInt8} {k : Nat} (h : l.drop k = ds ++ t) : numF l k ds.length = valD ds := by
  have hl := congrArg List.length h
  rw [List.length_drop, List.length_append] at hl
  rcases Nat.eq_zero_or_pos ds.length with h0 | h0
  · have e := List.eq_nil_of_length_eq_zero h0
    subst e
    simp [numF, valD]
  · rw [numF_take _ (by omega), h, List.take_left']
    rfl
theorem drop_add {l ds t : List UInt8} {k : Nat} (h : l.drop k = ds ++ t) : l.drop (k + ds.length) = t := by
  rw [← List.drop_drop, h, List.drop_left]
theorem at_drop {l t : List UInt8} {k : Nat} {c : UInt8} (h : l.drop k = c :: t) : l[k]? = some c := by
  have e : (l.drop k)[0]? = some c := by rw [h]; rfl
  rw [List.getElem?_drop] at e
  simpa using e
theorem drop_nil {l : List UInt8} {k : Nat} (h : l.drop k = []) : l.length ≤ k := by
  have := congrArg List.length h
  rw [List.length_drop] at this
  simp at this
  omega
theorem unit_step {l us : List UInt8} {f nx k j : Nat} {v : Nat → Int} {b : Bool} {n : Int} {u : UInt8} {t : List UInt8} (h : l.drop k = Per.partL n u ++ t) (hu : (us.drop nx).findIdx? (· == u) = some (j - nx)) (hj : nx ≤ j) (hdu : dig u = false) (h0 : 0 < n) (h8 : n < 100000000) :
    ∃ k', unitsF l us (f + 1) nx k v b = unitsF l us f (j + 1) k' (upd v j n) true ∧ l.drop k' = t := by
  obtain ⟨m, rfl⟩ : ∃ m : Nat, n = m := ⟨n.toNat, by omega⟩
  rw [Per.partL_yes h0, Lib.itoa_nonneg, List.append_assoc] at h
  obtain ⟨hd, hv, hl1⟩ := dec_dig m
  have hl8 := dec_len 7 m (by simp; omega)
  have hr : runL l k = (Lib.decDigits m).length := by
    unfold runL
    rw [h, cnt_app hd]
    show _ + cnt (u :: t) = _
    rw [cnt_stop hdu]
    rfl
  have h2 := drop_add h
  have hat : l[k + (Lib.decDigits m).length]? = some u := at_drop h2
  obtain ⟨hlt, hge⟩ := List.getElem?_eq_some_iff.1 hat
  have q := unitsF_next (l := l) (us := us) (f := f) (nx := nx) (k := k) (i := j - nx) (v := v) (b := b) (by omega) (by omega) (by rw [hr]; exact hlt) (by simp only [hr]; rw [hge]; exact hu)
  refine ⟨k + runL l k + 1, ?_, ?_⟩
  · rw [q, show nx + (j - nx) = j by omega, hr, numF_seg h, hv]
  · rw [hr, ← List.drop_drop, h2]
    rfl
theorem unit_any {l us : List UInt8} {f nx k j : Nat} {v : Nat → Int} {b : Bool} {n : Int} {u : UInt8} {t : List UInt8} (h : l.drop k = Per.partL n u ++ t) (hu : ∀ nx, nx ≤ j → (us.drop nx).findIdx? (· == u) = some (j - nx)) (hj : nx ≤ j) (hf : us.length < nx + f) (hju : j < us.length) (hdu : dig u = false) (_h0 : 0 ≤ n) (h8 : n < 100000000) :
    ∃ f' nx' k' v' b', unitsF l us f nx k v b = unitsF l us f' nx' k' v' b' ∧ l.drop k' = t ∧ nx' ≤ j + 1 ∧ us.length < nx' + f' ∧ (∀ i, v' i = if i = j ∧ 0 < n then n else v i) ∧ b' = (b || decide (0 < n)) := by
  by_cases hn : 0 < n
  · obtain ⟨f0, rfl⟩ : ∃ f0, f = f0 + 1 := ⟨f - 1, by omega⟩
    obtain ⟨k', e, ht⟩ := unit_step (f := f0) (v := v) (b := b) h (hu nx hj) hj hdu hn h8
    refine ⟨f0, j + 1, k', _, _, e, ht, Nat.le_refl _, by omega, fun i => ?_, by simp [hn]⟩
    unfold upd
    by_cases hi : i = j
    · rw [if_pos hi, if_pos ⟨hi, hn⟩]
    · rw [if_neg hi, if_neg (fun q => hi q.1)]
  · rw [Per.partL_no hn] at h
    exact ⟨f, nx, k, v, b, rfl, h, by omega, hf, fun i => by rw [if_neg (fun q => hn q.2)], by simp [hn]⟩
theorem units_end {l us : List UInt8} {f nx k : Nat} {v : Nat → Int} {b : Bool} (hf : us.length < nx + f) (hn : nx ≤ us.length) (hc : cnt (l.drop k) = 0) : unitsF l us f nx k v b = ⟨k, v, b, 0⟩ := by
  obtain ⟨f0, rfl⟩ : ∃ f0, f = f0 + 1 := ⟨f - 1, by omega⟩
  exact unitsF_none hc
theorem ymwd_at {l t : List UInt8} {k : Nat} {v : Nat → Int} (h : l.drop k = Per.partL (v 0) 89 ++ Per.partL (v 1) 77 ++ Per.partL (v 2) 87 ++ Per.partL (v 3) 68 ++ t) (hv : ∀ i, i < 4 → 0 ≤ v i ∧ v i < 100000000) (ht : cnt t = 0) :
    ∃ k' v', unitsF l ymwd 5 0 k zero false = ⟨k', v', decide (0 < v 0 ∨ 0 < v 1 ∨ 0 < v 2 ∨ 0 < v 3), 0⟩ ∧ l.drop k' = t ∧ ∀ i, i < 4 → v' i = v i := by
  simp only [List.append_assoc] at h
  have b0 := hv 0 (by omega); have b1 := hv 1 (by omega); have b2 := hv 2 (by omega); have b3 := hv 3 (by omega)
  obtain ⟨f1, n1, k1, v1, c1, e1, d1, l1, g1, w1, x1⟩ := unit_any (us := ymwd) (f := 5) (nx := 0) (j := 0) (v := zero) (b := false) h (by intro nx hx; rcases (show nx = 0 by omega) with rfl; rfl) (Nat.le_refl _) (by decide) (by decide) (by decide) b0.1 b0.2
  obtain ⟨f2, n2, k2, v2, c2, e2, d2, l2, g2, w2, x2⟩ := unit_any (us := ymwd) (f := f1) (nx := n1) (j := 1) (v := v1) (b := c1) d1 (by intro nx hx; rcases (show nx = 0 ∨ nx = 1 by omega) with rfl | rfl <;> rfl) l1 g1 (by decide) (by decide) b1.1 b1.2
  obtain ⟨f3, n3, k3, v3, c3, e3, d3, l3, g3, w3, x3⟩ := unit_any (us := ymwd) (f := f2) (nx := n2) (j := 2) (v := v2) (b := c2) d2 (by intro nx hx; rcases (show nx = 0 ∨ nx = 1 ∨ nx = 2 by omega) with rfl | rfl | rfl <;> rfl) l2 g2 (by decide) (by decide) b2.1 b2.2
  obtain ⟨f4, n4, k4, v4, c4, e4, d4, l4, g4, w4, x4⟩ := unit_any (us := ymwd) (f := f3) (nx := n3) (j := 3) (v := v3) (b := c3) d3 (by intro nx hx; rcases (show nx = 0 ∨ nx = 1 ∨ nx = 2 ∨ nx = 3 by omega) with rfl | rfl | rfl | rfl <;> rfl) l3 g3 (by decide) (by decide) b3.1 b3.2
  refine ⟨k4, v4, ?_, d4, fun i hi => ?_⟩
  · rw [e1, e2, e3, e4, units_end g4 (by simpa [ymwd] using l4) (by rw [d4]; exact ht), x4, x3, x2, x1]
    congr 1
    simp only [Bool.false_or, ← Bool.decide_or]
    congr 1
    simp only [or_assoc]
  · rw [w4, w3, w2, w1]
    rcases (show i = 0 ∨ i = 1 ∨ i = 2 ∨ i = 3 by omega) with rfl | rfl | rfl | rfl <;> simp [zero] <;> omega
theorem hms_at {l : List UInt8} {k : Nat} {s : Int} (h : l.drop k = Per.partL (s / 3600) 72 ++ Per.partL (s / 60 % 60) 77 ++ Per.partL (s % 60) 83) (h0 : 0 < s) (h1 : s < 360000000000) :
    ∃ k' v', unitsF l hms 4 0 k zero false = ⟨k', v', true, 0⟩ ∧ l.length ≤ k' ∧ (v' 0 * 60 + v' 1) * 60 + v' 2 = s := by
  have h' : l.drop k = Per.partL (s / 3600) 72 ++ (Per.partL (s / 60 % 60) 77 ++ (Per.partL (s % 60) 83 ++ [])) := by rw [h]; simp
  obtain ⟨f1, n1, k1, v1, c1, e1, d1, l1, g1, w1, x1⟩ := unit_any (us := hms) (f := 4) (nx := 0) (j := 0) (v := zero) (b := false) h' (by intro nx hx; rcases (show nx = 0 by omega) with rfl; rfl) (Nat.le_refl _) (by decide) (by decide) (by decide) (by omega) (by omega)
  obtain ⟨f2, n2, k2, v2, c2, e2, d2, l2, g2, w2, x2⟩ := unit_any (us := hms) (f := f1) (nx := n1) (j := 1) (v := v1) (b := c1) d1 (by intro nx hx; rcases (show nx = 0 ∨ nx = 1 by omega) with rfl | rfl <;> rfl) l1 g1 (by decide) (by decide) (by omega) (by omega)
  obtain ⟨f3, n3, k3, v3, c3, e3, d3, l3, g3, w3, x3⟩ := unit_any (us := hms) (f := f2) (nx := n2) (j := 2) (v := v2) (b := c2) d2 (by intro nx hx; rcases (show nx = 0 ∨ nx = 1 ∨ nx = 2 by omega) with rfl | rfl | rfl <;> rfl) l2 g2 (by decide) (by decide) (by omega) (by omega)
  refine ⟨k3, v3, ?_, drop_nil d3, ?_⟩
  · rw [e1, e2, e3, units_end g3 (by simpa [hms] using l3) (by rw [d3]; rfl), x3, x2, x1]
    congr 1
    simp only [Bool.false_or, ← Bool.decide_or]
    exact decide_eq_true (by omega)
  · have q0 : v3 0 = s / 3600 := by rw [w3, w2, w1]; simp [zero]; omega
    have q1 : v3 1 = s / 60 % 60 := by rw [w3, w2, w1]; simp [zero]; omega
    have q2 : v3 2 = s % 60 := by rw [w3, w2, w1]; simp [zero]; omega
    rw [q0, q1, q2]
    omega
/-- A period's numbers behind its sign are read back. -/
theorem per_at {l : List UInt8} {v : Nat → Int} (hl : l.drop (sg0 l) = Per.headL v ++ Per.tailL (v 4)) (hv : ∀ i, i < 4 → 0 ≤ v i ∧ v i < 100000000) (h4 : 0 ≤ v 4 ∧ v 4 < 360000000000) (hs : 0 < v 0 ∨ 0 < v 1 ∨ 0 < v 2 ∨ 0 < v 3 ∨ 0 < v 4) :
    (perF l).err = 0 ∧ (perF l).place = -1 ∧ ∀ i, i < 5 → (perF l).v i = sgn l * v i := by
  unfold Per.headL at hl
  have h80 : l[sg0 l]? = some 80 := at_drop (t := Per.partL (v 0) 89 ++ Per.partL (v 1) 77 ++ Per.partL (v 2) 87 ++ Per.partL (v 3) 68 ++ Per.tailL (v 4)) (by rw [hl]; simp)
  have hd : l.drop (sg0 l + 1) = Per.partL (v 0) 89 ++ Per.partL (v 1) 77 ++ Per.partL (v 2) 87 ++ Per.partL (v 3) 68 ++ Per.tailL (v 4) := by
    rw [← List.drop_drop, hl]; simp
  have hc : cnt (Per.tailL (v 4)) = 0 := by
    unfold Per.tailL
    split
    · simp only [List.append_assoc, List.singleton_append]; exact cnt_stop (by decide)
    · rfl
  obtain ⟨k1, v1, e1, d1, w1⟩ := ymwd_at hd hv hc
  have hp : perF l = perT l ⟨k1, v1, decide (0 < v 0 ∨ 0 < v 1 ∨ 0 < v 2 ∨ 0 < v 3), 0⟩ := by unfold perF; rw [if_pos h80, e1]
  by_cases hz : 0 < v 4
  · rw [Per.tailL_yes hz] at d1
    have h84 : l[k1]? = some 84 := at_drop (t := Per.partL (v 4 / 3600) 72 ++ (Per.partL (v 4 / 60 % 60) 77 ++ Per.partL (v 4 % 60) 83)) (by rw [d1]; simp only [List.append_assoc, List.singleton_append]; rfl)
    have d2 : l.drop (k1 + 1) = Per.partL (v 4 / 3600) 72 ++ Per.partL (v 4 / 60 % 60) 77 ++ Per.partL (v 4 % 60) 83 := by
      rw [← List.drop_drop, d1]; simp
    obtain ⟨k2, v2, e2, hk, w2⟩ := hms_at d2 hz h4.2
    have hp2 : perF l = perZ l v1 v2 true k2 := by
      rw [hp]; unfold perT; rw [if_pos rfl, if_pos h84]; simp only [e2]; rfl
    rw [hp2]
    unfold perZ
    rw [if_pos ⟨rfl, hk⟩]
    refine ⟨rfl, rfl, fun i hi => ?_⟩
    rcases (show i = 0 ∨ i = 1 ∨ i = 2 ∨ i = 3 ∨ i = 4 by omega) with rfl | rfl | rfl | rfl | rfl
    · show _ * v1 0 = _; rw [w1 0 (by omega)]
    · show _ * v1 1 = _; rw [w1 1 (by omega)]
    · show _ * v1 2 = _; rw [w1 2 (by omega)]
    · show _ * v1 3 = _; rw [w1 3 (by omega)]
    · show _ * ((v2 0 * 60 + v2 1) * 60 + v2 2) = _; rw [w2]
  · rw [Per.tailL_no hz] at d1
    have hk := drop_nil d1
    have h84 : ¬ l[k1]? = some 84 := by rw [List.getElem?_eq_none hk]; simp
    have hb : decide (0 < v 0 ∨ 0 < v 1 ∨ 0 < v 2 ∨ 0 < v 3) = true := decide_eq_true (by omega)
    have hp2 : perF l = perZ l v1 zero true k1 := by
      rw [hp, hb]; unfold perT; rw [if_pos rfl, if_neg h84]
    rw [hp2]
    unfold perZ
    rw [if_pos ⟨rfl, hk⟩]
    refine ⟨rfl, rfl, fun i hi => ?_⟩
    rcases (show i = 0 ∨ i = 1 ∨ i = 2 ∨ i = 3 ∨ i = 4 by omega) with rfl | rfl | rfl | rfl | rfl
    · show _ * v1 0 = _; rw [w1 0 (by omega)]
    · show _ * v1 1 = _; rw [w1 1 (by omega)]
    · show _ * v1 2 = _; rw [w1 2 (by omega)]
    · show _ * v1 3 = _; rw [w1 3 (by omega)]
    · show _ * ((zero 0 * 60 + zero 1) * 60 + zero 2) = _
      rw [show v 4 = 0 by omega]; simp [zero]
/-- A period's text is read back, if no part is too long for eight digits. -/
theorem per_back {v : Nat → Int} (hE : Per.textE v = 0) (hv : ∀ i, i < 4 → -99999999 ≤ v i ∧ v i ≤ 99999999) (h4 : -359999996400 ≤ v 4 ∧ v 4 ≤ 359999996400) :
    (perF (Per.textL v)).err = 0 ∧ (perF (Per.textL v)).place = -1 ∧ ∀ i, i < 5 → (perF (Per.textL v)).v i = v i := by
  have hL : Per.textL v = Per.textS v := if_pos hE
  have hU : ¬ (Per.upB v 5 = true ∧ Per.dnB v 5 = true) := by
    intro h
    unfold Per.textE at hE
    split at hE
    · exact absurd hE (by decide)
    · first | exact absurd hE (by decide) | (rw [if_pos h] at hE; exact absurd hE (by decide))
  rw [hL]
  cases hd : Per.dnB v 5 with
  | true =>
    have hu : Per.upB v 5 = false := by
      cases h : Per.upB v 5 with
      | true => exact absurd ⟨h, hd⟩ hU
      | false => rfl
    have e := Per.textS_dn hd
    have hs : sgn (Per.textS v) = -1 := by rw [e]; unfold sgn; simp
    have h0 : sg0 (Per.textS v) = 1 := by rw [e]; unfold sg0; simp
    have hdrop : (Per.textS v).drop (sg0 (Per.textS v)) = Per.headL (Per.neg v) ++ Per.tailL (Per.neg v 4) := by rw [h0, e]; simp [Per.neg]
    have hn : ∀ i, i < 5 → v i ≤ 0 := fun i hi => Per.upB_no hu hi
    have hany : ∃ i, i < 5 ∧ v i < 0 := by
      unfold Per.dnB at hd
      rw [List.any_eq_true] at hd
      obtain ⟨i, hi, hv⟩ := hd
      exact ⟨i, List.mem_range.1 hi, by simpa using hv⟩
    obtain ⟨q1, q2, q3⟩ := per_at (v := Per.neg v) hdrop (fun i hi => ⟨by have := hn i (by omega); show 0 ≤ - v i; omega, by have := hv i hi; show - v i < _; omega⟩) ⟨by have := hn 4 (by omega); show 0 ≤ - v 4; omega, by show - v 4 < _; omega⟩ (by
      obtain ⟨i, hi, hvi⟩ := hany
      show 0 < - v 0 ∨ 0 < - v 1 ∨ 0 < - v 2 ∨ 0 < - v 3 ∨ 0 < - v 4
      rcases (show i = 0 ∨ i = 1 ∨ i = 2 ∨ i = 3 ∨ i = 4 by omega) with rfl | rfl | rfl | rfl | rfl <;> omega)
    exact ⟨q1, q2, fun i hi => by rw [q3 i hi, hs]; show -1 * (- v i) = v i; omega⟩
  | false =>
    cases hu : Per.upB v 5 with
    | true =>
      have e := Per.textS_up hd hu
      have hs : sgn (Per.textS v) = 1 := by rw [e]; unfold sgn Per.headL; simp
      have h0 : sg0 (Per.textS v) = 0 := by rw [e]; unfold sg0 Per.headL; simp
      have hdrop : (Per.textS v).drop (sg0 (Per.textS v)) = Per.headL v ++ Per.tailL (v 4) := by rw [h0, e]; rfl
      have hn : ∀ i, i < 5 → 0 ≤ v i := fun i hi => Per.dnB_no hd hi
      have hany : ∃ i, i < 5 ∧ 0 < v i := by
        unfold Per.upB at hu
        rw [List.any_eq_true] at hu
        obtain ⟨i, hi, hv⟩ := hu
        exact ⟨i, List.mem_range.1 hi, by simpa using hv⟩
      obtain ⟨q1, q2, q3⟩ := per_at (v := v) hdrop (fun i hi => ⟨hn i (by omega), by have := hv i hi; omega⟩) ⟨hn 4 (by omega), by omega⟩ (by
        obtain ⟨i, hi, hvi⟩ := hany
        rcases (show i = 0 ∨ i = 1 ∨ i = 2 ∨ i = 3 ∨ i = 4 by omega) with rfl | rfl | rfl | rfl | rfl <;> omega)
      exact ⟨q1, q2, fun i hi => by rw [q3 i hi, hs]; omega⟩
    | false =>
      rw [Per.textS_zero hd hu]
      have hn : ∀ i, i < 5 → v i = 0 := fun i hi => by have h1 := Per.dnB_no hd hi; have h2 := Per.upB_no hu hi; omega
      refine ⟨by decide, by decide, fun i hi => ?_⟩
      rw [hn i hi]
      rcases (show i = 0 ∨ i = 1 ∨ i = 2 ∨ i = 3 ∨ i = 4 by omega) with rfl | rfl | rfl | rfl | rfl <;> decide
end Bk
