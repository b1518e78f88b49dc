/- Plain: digits in a text, numbers, units of a period (no program in sight). -/
namespace Scm
/-- Is it a digit? -/
def dig (c : UInt8) : Bool := decide (48 ≤ c.toNat) && decide (c.toNat ≤ 57)
theorem dig_ok {c : UInt8} (h1 : 48 ≤ c.toNat) (h2 : c.toNat ≤ 57) : dig c = true := by simp [dig, h1, h2]
theorem dig_lo {c : UInt8} (h1 : ¬ 48 ≤ c.toNat) : dig c = false := by simp [dig]; omega
theorem dig_hi {c : UInt8} (h1 : ¬ c.toNat ≤ 57) : dig c = false := by simp [dig]; omega
theorem dig_iff {c : UInt8} : dig c = true ↔ 48 ≤ c.toNat ∧ c.toNat ≤ 57 := by simp [dig]
/-- How many digits stand ahead. -/
def cnt : List UInt8 → Nat
  | [] => 0
  | c :: l => if dig c then cnt l + 1 else 0
theorem cnt_le : ∀ l : List UInt8, cnt l ≤ l.length
  | [] => by simp [cnt]
  | c :: l => by have := cnt_le l; unfold cnt; split <;> simp <;> omega
/-- How many digits stand from k on. -/
def runL (l : List UInt8) (k : Nat) : Nat := cnt (l.drop k)
theorem runL_end {l : List UInt8} {k : Nat} (h : l.length ≤ k) : runL l k = 0 := by unfold runL; rw [List.drop_eq_nil_of_le h]; rfl
theorem runL_yes {l : List UInt8} {k : Nat} (h : k < l.length) (hd : dig l[k] = true) : runL l k = runL l (k + 1) + 1 := by
  unfold runL; rw [List.drop_eq_getElem_cons h]; simp [cnt, hd]
theorem runL_no {l : List UInt8} {k : Nat} (h : k < l.length) (hd : dig l[k] = false) : runL l k = 0 := by
  unfold runL; rw [List.drop_eq_getElem_cons h]; simp [cnt, hd]
theorem runL_le (l : List UInt8) (k : Nat) (h : k ≤ l.length) : k + runL l k ≤ l.length := by
  have := cnt_le (l.drop k); rw [List.length_drop] at this; unfold runL; omega
theorem runL_pos {l : List UInt8} {k : Nat} (h : 0 < runL l k) : k < l.length := by
  rcases Nat.lt_or_ge k l.length with h1 | h1
  · exact h1
  · rw [runL_end h1] at h; omega
/-- Digits from k on: the j-th is one as long as j is less than the run. -/
theorem runL_at {l : List UInt8} : ∀ {j k : Nat}, j < runL l k → ∃ h : k + j < l.length, dig l[k + j] = true := by
  intro j
  induction j with
  | zero =>
    intro k hj
    have hk := runL_pos hj
    refine ⟨hk, ?_⟩
    show dig l[k] = true
    rcases hd : dig l[k] with _ | _
    · rw [runL_no hk hd] at hj; omega
    · rfl
  | succ j ih =>
    intro k hj
    have hk : k < l.length := runL_pos (by omega)
    rcases hd : dig l[k] with _ | _
    · rw [runL_no hk hd] at hj; omega
    · rw [runL_yes hk hd] at hj
      obtain ⟨h1, h2⟩ := ih (k := k + 1) (by omega)
      refine ⟨by omega, ?_⟩
      have e : k + (j + 1) = k + 1 + j := by omega
      simp only [e]
      exact h2
theorem runL_stop {l : List UInt8} {k : Nat} (h : k + runL l k < l.length) : dig l[k + runL l k] = false := by
  have e : ∀ m k, runL l k = m → ∀ h : k + m < l.length, dig l[k + m] = false := by
    intro m
    induction m with
    | zero =>
      intro k hm h
      show dig l[k] = false
      rcases hd : dig l[k] with _ | _
      · rfl
      · rw [runL_yes (show k < l.length from h) hd] at hm; omega
    | succ m ih =>
      intro k hm h
      have hk : k < l.length := by omega
      rcases hd : dig l[k] with _ | _
      · rw [runL_no hk hd] at hm; omega
      · rw [runL_yes hk hd] at hm
        have := ih (k + 1) (by omega) (by omega)
        have e : k + (m + 1) = k + 1 + m := by omega
        simp only [e]
        exact this
  exact e _ _ rfl h
theorem runL_add {l : List UInt8} : ∀ {j k : Nat}, j ≤ runL l k → runL l k = j + runL l (k + j) := by
  intro j
  induction j with
  | zero => intro k _; simp
  | succ j ih =>
    intro k hj
    have hk : k < l.length := runL_pos (by omega)
    rcases hd : dig l[k] with _ | _
    · rw [runL_no hk hd] at hj; omega
    · have h1 := runL_yes hk hd
      rw [h1] at hj
      have h2 := ih (k := k + 1) (by omega)
      rw [h1, h2, show k + 1 + j = k + (j + 1) by omega]
      omega
/-- The number of so many bytes. -/
def numF (l : List UInt8) (k : Nat) : Nat → Nat
  | 0 => 0
  | n + 1 => 10 * numF l k n + ((l.getD (k + n) 0).toNat - 48)
theorem numF_lt {l : List UInt8} {k : Nat} : ∀ {n : Nat}, n ≤ runL l k → numF l k n < 10 ^ n := by
  intro n
  induction n with
  | zero => intro _; simp [numF]
  | succ n ih =>
    intro h
    have h1 := ih (by omega)
    obtain ⟨hk, hd⟩ := runL_at (l := l) (j := n) (k := k) (by omega)
    rw [dig_iff] at hd
    have e : l.getD (k + n) 0 = l[k + n] := by rw [List.getD, List.getElem?_eq_getElem hk]; rfl
    unfold numF
    rw [e, Nat.pow_succ]
    omega
/-- Where c stands first in us from the place nx on. -/
def idx (us : List UInt8) (c : UInt8) : Nat → Option Nat
  | n => (us.drop n).findIdx? (· == c)
/-- What numbers with units are worth: the place, the values, was there one, what is wrong. -/
def upd (v : Nat → Int) (j : Nat) (n : Int) : Nat → Int := fun i => if i = j then n else v i
theorem upd_same (v : Nat → Int) (j : Nat) (n : Int) : upd v j n j = n := if_pos rfl
theorem upd_other (v : Nat → Int) {i j : Nat} (n : Int) (h : i ≠ j) : upd v j n i = v i := if_neg h
structure Ures where
  at_ : Nat
  val : Nat → Int
  some_ : Bool
  err : Int
def unitsF (l us : List UInt8) : Nat → Nat → Nat → (Nat → Int) → Bool → Ures
  | 0, _, k, v, b => ⟨k, v, b, 0⟩
  | f + 1, nx, k, v, b =>
    if runL l k = 0 then ⟨k, v, b, 0⟩
    else if 8 < runL l k then ⟨k, v, b, 6⟩
    else if h : k + runL l k < l.length then
      match (us.drop nx).findIdx? (· == l[k + runL l k]) with
      | none => ⟨k + runL l k, v, b, 5⟩
      | some i => unitsF l us f (nx + i + 1) (k + runL l k + 1) (upd v (nx + i) (numF l k (runL l k) : Nat)) true
    else ⟨k + runL l k, v, b, 5⟩
theorem unitsF_none {l us : List UInt8} {f nx k : Nat} {v : Nat → Int} {b : Bool} (h : runL l k = 0) : unitsF l us (f + 1) nx k v b = ⟨k, v, b, 0⟩ := by
  unfold unitsF; rw [if_pos h]
theorem unitsF_many {l us : List UInt8} {f nx k : Nat} {v : Nat → Int} {b : Bool} (h : 8 < runL l k) : unitsF l us (f + 1) nx k v b = ⟨k, v, b, 6⟩ := by
  unfold unitsF; rw [if_neg (by omega), if_pos h]
theorem unitsF_end {l us : List UInt8} {f nx k : Nat} {v : Nat → Int} {b : Bool} (h : 0 < runL l k) (h8 : runL l k ≤ 8) (he : l.length ≤ k + runL l k) : unitsF l us (f + 1) nx k v b = ⟨k + runL l k, v, b, 5⟩ := by
  unfold unitsF; rw [if_neg (by omega), if_neg (by omega), dif_neg (by omega)]
theorem unitsF_bad {l us : List UInt8} {f nx k : Nat} {v : Nat → Int} {b : Bool} (h : 0 < runL l k) (h8 : runL l k ≤ 8) (he : k + runL l k < l.length) (hf : (us.drop nx).findIdx? (· == l[k + runL l k]) = none) :
    unitsF l us (f + 1) nx k v b = ⟨k + runL l k, v, b, 5⟩ := by
  unfold unitsF; rw [if_neg (by omega), if_neg (by omega), dif_pos he, hf]
theorem unitsF_next {l us : List UInt8} {f nx k i : Nat} {v : Nat → Int} {b : Bool} (h : 0 < runL l k) (h8 : runL l k ≤ 8) (he : k + runL l k < l.length) (hf : (us.drop nx).findIdx? (· == l[k + runL l k]) = some i) :
    unitsF l us (f + 1) nx k v b = unitsF l us f (nx + i + 1) (k + runL l k + 1) (upd v (nx + i) (numF l k (runL l k) : Nat)) true := by
  conv => lhs; unfold unitsF
  rw [if_neg (by omega), if_neg (by omega), dif_pos he, hf]
/-- A period's number with its unit, if there is one. -/
structure Per where
  err : Int
  place : Int
  v : Nat → Int
def zero : Nat → Int := fun _ => 0
def sgn (l : List UInt8) : Int := if l[0]? = some 45 then -1 else 1
def sg0 (l : List UInt8) : Nat := if l[0]? = some 45 then 1 else 0
/-- The end of the reading. -/
def perZ (l : List UInt8) (v t : Nat → Int) (b : Bool) (k : Nat) : Per :=
  if b = true ∧ l.length ≤ k then ⟨0, -1, fun i => match i with | 0 => sgn l * v 0 | 1 => sgn l * v 1 | 2 => sgn l * v 2 | 3 => sgn l * v 3 | _ => sgn l * ((t 0 * 60 + t 1) * 60 + t 2)⟩
  else ⟨5, k, zero⟩
def ymwd : List UInt8 := [89, 77, 87, 68]
def hms : List UInt8 := [72, 77, 83]
def perT (l : List UInt8) (u : Ures) : Per :=
  if u.err = 0 then
    if l[u.at_]? = some 84 then
      let x := unitsF l hms 4 0 (u.at_ + 1) zero false
      if x.err = 0 then perZ l u.val x.val x.some_ x.at_ else ⟨x.err, x.at_, zero⟩
    else perZ l u.val zero u.some_ u.at_
  else ⟨u.err, u.at_, zero⟩
def perF (l : List UInt8) : Per :=
  if l[sg0 l]? = some 80 then perT l (unitsF l ymwd 5 0 (sg0 l + 1) zero false) else ⟨5, sg0 l, zero⟩
end Scm
