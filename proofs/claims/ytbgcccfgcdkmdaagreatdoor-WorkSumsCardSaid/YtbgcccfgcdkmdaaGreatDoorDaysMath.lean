/- Plain mathematics of ten calendars: no Go, no program. -/
namespace Dm

def gStart (y : Int) : Int := 365 * (y - 1) + (y - 1) / 4 - (y - 1) / 100 + (y - 1) / 400
def gLeap (y : Int) : Bool := y % 4 == 0 && (y % 100 != 0 || y % 400 == 0)
def moons (y : Int) : Int := (235 * y - 234) / 19
def day0 (y : Int) : Int := 29 * moons y + (12084 + 13753 * moons y) / 25920
def elapsed (y : Int) : Int := if (3 * (day0 y + 1)) % 7 < 3 then day0 y + 1 else day0 y
def hStart (y : Int) : Int :=
  if elapsed (y + 1) - elapsed y = 356 then elapsed y + 2
  else if elapsed y - elapsed (y - 1) = 382 then elapsed y + 1
  else elapsed y
def hLeap (y : Int) : Bool := decide ((7 * y + 1) % 19 < 7)

/-- Is the year y of calendar c a leap year? -/
def leap (c y : Int) : Bool :=
  if c = 1 then gLeap y
  else if c = 2 then y % 4 == 0
  else if c = 3 then y % 4 == 3
  else if c = 4 then y % 4 == 3
  else if c = 5 then decide ((14 + 11 * y) % 30 < 11)
  else if c = 6 then decide ((((y - 474) % 2820 + 512) * 682) % 2816 < 682)
  else if c = 7 then hLeap y
  else if c = 8 then gLeap (y + 78)
  else if c = 9 then (gLeap y && y % 4000 != 0)
  else false

/-- On which day a year begins, year 1 beginning on day 0. -/
def start (c y : Int) : Int :=
  if c = 1 then gStart y
  else if c = 2 then 365 * (y - 1) + (y - 1) / 4
  else if c = 3 then 365 * (y - 1) + y / 4
  else if c = 4 then 365 * (y - 1) + y / 4
  else if c = 5 then 354 * (y - 1) + (3 + 11 * y) / 30
  else if c = 6 then 1029983 * ((y - 474) / 2820) + 365 * ((y - 474) % 2820 + 474 - 1) + (682 * ((y - 474) % 2820 + 474) - 110) / 2816
  else if c = 7 then hStart y
  else if c = 8 then gStart (y + 78) - gStart 79
  else if c = 9 then 365 * (y - 1) + (y - 1) / 4 - (y - 1) / 100 + (y - 1) / 400 - (y - 1) / 4000
  else 365 * (y - 1)

def first (c : Int) : Int :=
  if c = 1 then -719162 else if c = 2 then -719164 else if c = 3 then -615558 else if c = 4 then -716367
  else if c = 5 then -492148 else if c = 6 then -492267 else if c = 7 then -2092590 else if c = 8 then -690593
  else if c = 9 then -64748 else -991950

def months (c y : Int) : Int :=
  if c = 1 ∨ c = 2 ∨ c = 5 ∨ c = 6 ∨ c = 8 then 12 else if c = 7 then (if hLeap y then 13 else 12) else 13

/-- How many days a year has. -/
def yearDays (c y : Int) : Int := start c (y + 1) - start c y

def roman (m : Int) : Int := if m = 2 then 28 else if m = 4 ∨ m = 6 ∨ m = 9 ∨ m = 11 then 30 else 31
/-- How many days a month has (for 1 ≤ m ≤ months c y). -/
def length (c y m : Int) : Int :=
  if c = 1 ∨ c = 2 then (if m = 2 ∧ leap c y = true then 29 else roman m)
  else if c = 5 then (if m % 2 = 1 ∨ (m = 12 ∧ leap c y = true) then 30 else 29)
  else if c = 6 then (if m ≤ 6 then 31 else if m ≤ 11 ∨ leap c y = true then 30 else 29)
  else if c = 8 then (if (m = 1 ∧ leap c y = true) ∨ (2 ≤ m ∧ m ≤ 6) then 31 else 30)
  else if c = 7 then
    (if hLeap y = true ∧ m = 6 then 30
     else
      let k := if hLeap y = true ∧ 6 < m then m - 1 else m
      if (k = 2 ∧ yearDays 7 y % 10 = 5) ∨ (k = 3 ∧ yearDays 7 y % 10 ≠ 3) then 30
      else if k = 2 ∨ k = 3 then 29
      else if k % 2 = 1 then 30 else 29)
  else (if m ≤ 12 then 30 else if leap c y = true then 6 else 5)

/-- Days of the months 1 .. n of a year. -/
def upTo (c y : Int) : Nat → Int
  | 0 => 0
  | n + 1 => upTo c y n + length c y (n + 1)

theorem gStart79 : gStart 79 = 28489 := by decide

theorem gLeap_days (y : Int) : gStart (y + 1) - gStart y = if gLeap y = true then 366 else 365 := by
  unfold gStart gLeap
  by_cases a : y % 4 = 0 <;> by_cases b : y % 100 = 0 <;> by_cases d : y % 400 = 0 <;> simp [a, b, d] <;> omega

/-- The year's base length. -/
def base (c : Int) : Int := if c = 5 then 354 else 365

theorem days_plain (c y : Int) (h1 : 1 ≤ c) (h2 : c ≤ 10) (h7 : c ≠ 7) : yearDays c y = base c + if leap c y = true then 1 else 0 := by
  have hc : c = 1 ∨ c = 2 ∨ c = 3 ∨ c = 4 ∨ c = 5 ∨ c = 6 ∨ c = 8 ∨ c = 9 ∨ c = 10 := by omega
  rcases hc with rfl | rfl | rfl | rfl | rfl | rfl | rfl | rfl | rfl
  · have := gLeap_days y
    simp only [yearDays, start, base, leap]; simp; split at this <;> simp_all <;> omega
  · simp only [yearDays, start, base, leap]; simp; split <;> omega
  · simp only [yearDays, start, base, leap]; simp; split <;> omega
  · simp only [yearDays, start, base, leap]; simp; split <;> omega
  · simp only [yearDays, start, base, leap]; simp
    have e1 : 3 + 11 * (y + 1) = 3 + 11 * y + 11 := by omega
    have e2 : 14 + 11 * y = 3 + 11 * y + 11 := by omega
    rw [e1, e2]; generalize 3 + 11 * y = x
    split <;> omega
  · simp only [yearDays, start, base, leap]; simp
    by_cases h : (y - 474) % 2820 = 2819
    · have e1 : (y + 1 - 474) % 2820 = 0 := by omega
      have e2 : (y + 1 - 474) / 2820 = (y - 474) / 2820 + 1 := by omega
      rw [e1, e2, h]; simp; omega
    · have e1 : (y + 1 - 474) % 2820 = (y - 474) % 2820 + 1 := by omega
      have e2 : (y + 1 - 474) / 2820 = (y - 474) / 2820 := by omega
      have hr := Int.emod_nonneg (y - 474) (show (2820 : Int) ≠ 0 by decide)
      rw [e1, e2]; generalize (y - 474) % 2820 = r at *
      have e3 : 682 * (r + 1 + 474) - 110 = 682 * (r + 474) - 110 + 682 := by omega
      have e4 : (r + 512) * 682 = 682 * (r + 474) - 110 + 682 + 9 * 2816 := by omega
      rw [e3, e4]; generalize 682 * (r + 474) - 110 = x
      split <;> omega
  · have := gLeap_days (y + 78)
    have e : y + 1 + 78 = y + 78 + 1 := by omega
    simp only [yearDays, start, base, leap]; simp; rw [e]; split at this <;> simp_all <;> omega
  · have := gLeap_days y
    simp only [gStart, gLeap] at this
    simp only [yearDays, start, base, leap, gLeap]; simp
    by_cases a : y % 4 = 0 <;> by_cases b : y % 100 = 0 <;> by_cases d : y % 400 = 0 <;> by_cases e : y % 4000 = 0 <;> simp [a, b, d, e] at this ⊢ <;> omega
  · simp only [yearDays, start, base, leap]; simp; omega

theorem months_lo (c y : Int) : months c y = 12 ∨ months c y = 13 := by
  unfold months; split <;> (try split) <;> (try split) <;> omega

/-- Days of a whole year, month by month (not the seventh calendar). -/
theorem sum_plain (c y : Int) (h1 : 1 ≤ c) (h2 : c ≤ 10) (h7 : c ≠ 7) : upTo c y (months c y).toNat = yearDays c y := by
  rw [days_plain c y h1 h2 h7]
  have hc : c = 1 ∨ c = 2 ∨ c = 3 ∨ c = 4 ∨ c = 5 ∨ c = 6 ∨ c = 8 ∨ c = 9 ∨ c = 10 := by omega
  rcases hc with rfl | rfl | rfl | rfl | rfl | rfl | rfl | rfl | rfl <;>
    simp [months, upTo, length, base, roman] <;> (try split) <;> simp_all
def nM (Y : Nat) : Nat := (235 * Y + 13066) / 19
def nD (Y : Nat) : Nat := 29 * nM Y + (12084 + 13753 * nM Y) / 25920
def nE (Y : Nat) : Nat := nD Y + cond (Nat.blt ((3 * (nD Y + 3)) % 7) 3) 1 0
/-- The year's begin, out of three elapsed numbers. -/
def nS (a b c : Nat) : Nat := cond (Nat.beq c (b + 356)) (b + 2) (cond (Nat.beq b (a + 382)) (b + 1) b)
/-- Y: the year + 20900. -/
def nOK (Y a b c d : Nat) : Bool :=
  cond (Nat.blt ((7 * Y + 1) % 19) 7)
    (cond (Nat.beq (nS b c d) (nS a b c + 383)) true (cond (Nat.beq (nS b c d) (nS a b c + 384)) true (Nat.beq (nS b c d) (nS a b c + 385))))
    (cond (Nat.beq (nS b c d) (nS a b c + 353)) true (cond (Nat.beq (nS b c d) (nS a b c + 354)) true (Nat.beq (nS b c d) (nS a b c + 355))))
def nYear (Y : Nat) : Bool := nOK (Y + 1) (nE Y) (nE (Y + 1)) (nE (Y + 2)) (nE (Y + 3))
def nAll : Nat → Nat → Bool
  | 0, _ => true
  | n + 1, Y => cond (nYear Y) (nAll n (Y + 1)) false
def nBig : Nat → Nat → Bool
  | 0, _ => true
  | n + 1, Y => cond (nAll 500 Y) (nBig n (Y + 500)) false
set_option maxRecDepth 100000 in
theorem heb1 : nBig 82 800 = true := by decide +kernel
theorem moons_n (y : Int) (Y : Nat) (h : (Y : Int) = y + 20900) : moons y = (nM Y : Int) - 259200 := by
  unfold moons nM
  have e : 235 * y - 234 = (235 * (Y : Int) + 13066) + (-259200) * 19 := by omega
  rw [e, Int.add_mul_ediv_right _ _ (by decide)]
  omega
theorem day0_n (y : Int) (Y : Nat) (h : (Y : Int) = y + 20900) : day0 y = (nD Y : Int) - 7654330 := by
  unfold day0 nD
  rw [moons_n y Y h]
  have e : 12084 + 13753 * ((nM Y : Int) - 259200) = (12084 + 13753 * (nM Y : Int)) + (-137530) * 25920 := by omega
  rw [e, Int.add_mul_ediv_right _ _ (by decide)]
  omega
theorem cond_iff {P : Prop} [Decidable P] {b : Bool} (h : b = decide P) (x y : Nat) : ((cond b x y : Nat) : Int) = if P then (x : Int) else (y : Int) := by
  subst h
  by_cases hp : P <;> simp [hp]
theorem blt_dec (a b : Nat) : Nat.blt a b = decide (a < b) := by
  rw [Bool.eq_iff_iff, Nat.blt_eq, decide_eq_true_iff]
theorem beq_dec (a b : Nat) : Nat.beq a b = decide (a = b) := by
  rw [Bool.eq_iff_iff, Nat.beq_eq, decide_eq_true_iff]
theorem elapsed_n (y : Int) (Y : Nat) (h : (Y : Int) = y + 20900) : elapsed y = (nE Y : Int) - 7654330 := by
  unfold elapsed nE
  rw [day0_n y Y h, Int.natCast_add, cond_iff (blt_dec _ _)]
  generalize nD Y = d
  have e : 3 * ((d : Int) - 7654330 + 1) = 3 * ((d : Int) + 3) + (-3280428) * 7 := by omega
  rw [e, Int.add_mul_emod_self_right]
  have hd : 3 * ((d : Int) + 3) % 7 = ((3 * (d + 3) % 7 : Nat) : Int) := by simp
  rw [hd]
  generalize 3 * (d + 3) % 7 = r
  split <;> split <;> omega
theorem sub_both (a b k : Int) : (b - k) - (a - k) = b - a := by omega
theorem hStart_n (y : Int) (Y : Nat) (h : (Y : Int) + 1 = y + 20900) : hStart y = (nS (nE Y) (nE (Y + 1)) (nE (Y + 2)) : Int) - 7654330 := by
  unfold hStart nS
  rw [elapsed_n (y + 1) (Y + 2) (by omega), elapsed_n y (Y + 1) (by omega), elapsed_n (y - 1) Y (by omega), cond_iff (beq_dec _ _), cond_iff (beq_dec _ _)]
  generalize nE Y = a; generalize nE (Y + 1) = b; generalize nE (Y + 2) = c
  split <;> split <;> (try split) <;> (try split) <;> omega
theorem nAll_at (n Y : Nat) (h : nAll n Y = true) (k : Nat) (h1 : Y ≤ k) (h2 : k < Y + n) : nYear k = true := by
  induction n generalizing Y with
  | zero => omega
  | succ n ih =>
    simp only [nAll] at h
    cases hy : nYear Y with
    | false => rw [hy] at h; cases h
    | true =>
      rw [hy] at h
      by_cases e : k = Y
      · rw [e]; exact hy
      · exact ih (Y + 1) h (by omega) (by omega)
theorem nBig_at (n Y : Nat) (h : nBig n Y = true) (k : Nat) (h1 : Y ≤ k) (h2 : k < Y + 500 * n) : nYear k = true := by
  induction n generalizing Y with
  | zero => omega
  | succ n ih =>
    simp only [nBig] at h
    cases hy : nAll 500 Y with
    | false => rw [hy] at h; cases h
    | true =>
      rw [hy] at h
      by_cases e : k < Y + 500
      · exact nAll_at 500 Y hy k h1 e
      · exact ih (Y + 500) h (by omega) (by omega)
theorem beq_or (x n : Nat) (b : Bool) (h : cond (Nat.beq x n) true b = true) : x = n ∨ b = true := by
  cases e : Nat.beq x n with
  | true => exact .inl (Nat.eq_of_beq_eq_true e)
  | false => rw [e] at h; exact .inr h
theorem heb_leap (y : Int) (Y : Nat) (hY : (Y : Int) + 1 = y + 20900) : hLeap y = decide ((7 * (Y + 1) + 1) % 19 < 7) := by
  have hm : 7 * y + 1 = (7 * ((Y : Int) + 1) + 1) + (-7700) * 19 := by omega
  unfold hLeap
  rw [hm, Int.add_mul_emod_self_right]
  have hd : (7 * ((Y : Int) + 1) + 1) % 19 = (((7 * (Y + 1) + 1) % 19 : Nat) : Int) := by simp
  rw [hd]
  generalize (7 * (Y + 1) + 1) % 19 = r
  congr 1
  apply propext
  omega
theorem heb_days (y : Int) (Y : Nat) (hY : (Y : Int) + 1 = y + 20900) : yearDays 7 y = (nS (nE (Y + 1)) (nE (Y + 2)) (nE (Y + 3)) : Int) - (nS (nE Y) (nE (Y + 1)) (nE (Y + 2)) : Int) := by
  have e := hStart_n y Y hY
  have e' := hStart_n (y + 1) (Y + 1) (by omega)
  rw [show Y + 1 + 1 = Y + 2 from rfl, show Y + 1 + 2 = Y + 3 from rfl] at e'
  rw [show yearDays 7 y = hStart (y + 1) - hStart y by simp [yearDays, start], e, e', sub_both]
theorem heb_at (y : Int) (h1 : -20099 ≤ y) (h2 : y ≤ 20899) : ∃ Y : Nat, (Y : Int) + 1 = y + 20900 ∧ nYear Y = true := by
  obtain ⟨Y, hY⟩ : ∃ Y : Nat, (Y : Int) + 1 = y + 20900 := ⟨(y + 20899).toNat, by omega⟩
  exact ⟨Y, hY, nBig_at 82 800 heb1 Y (by omega) (by omega)⟩
theorem heb_fin (l : Bool) (a b : Nat) (hk : cond l (cond (Nat.beq b (a + 383)) true (cond (Nat.beq b (a + 384)) true (Nat.beq b (a + 385)))) (cond (Nat.beq b (a + 353)) true (cond (Nat.beq b (a + 354)) true (Nat.beq b (a + 355)))) = true) :
    ∃ k : Int, 353 ≤ k ∧ k ≤ 355 ∧ (b : Int) - a = k + if l = true then 30 else 0 := by
  cases l with
  | true =>
    simp only [cond_true] at hk
    rcases beq_or _ _ _ hk with h | h
    · exact ⟨353, by omega, by omega, by simp; omega⟩
    · rcases beq_or _ _ _ h with h | h
      · exact ⟨354, by omega, by omega, by simp; omega⟩
      · have := Nat.eq_of_beq_eq_true h; exact ⟨355, by omega, by omega, by simp; omega⟩
  | false =>
    simp only [cond_false] at hk
    rcases beq_or _ _ _ hk with h | h
    · exact ⟨353, by omega, by omega, by simp; omega⟩
    · rcases beq_or _ _ _ h with h | h
      · exact ⟨354, by omega, by omega, by simp; omega⟩
      · have := Nat.eq_of_beq_eq_true h; exact ⟨355, by omega, by omega, by simp; omega⟩
/-- THE SEVENTH CALENDAR's YEARS: 353, 354 or 355 days, or thirty more. -/
theorem days_heb (y : Int) (h1 : -20099 ≤ y) (h2 : y ≤ 20899) : ∃ k : Int, 353 ≤ k ∧ k ≤ 355 ∧ yearDays 7 y = k + if hLeap y = true then 30 else 0 := by
  obtain ⟨Y, hY, hk⟩ := heb_at y h1 h2
  rw [heb_days y Y hY]
  unfold nYear nOK at hk
  rw [blt_dec, ← heb_leap y Y hY] at hk
  exact heb_fin _ _ _ hk
theorem sum_heb (y : Int) (h1 : -20099 ≤ y) (h2 : y ≤ 20899) : upTo 7 y (months 7 y).toNat = yearDays 7 y := by
  obtain ⟨k, k1, k2, e⟩ := days_heb y h1 h2
  have hk : k = 353 ∨ k = 354 ∨ k = 355 := by omega
  cases hl : hLeap y <;> rcases hk with rfl | rfl | rfl <;> simp [months, upTo, length, hl, e]
/-- Days of a whole year, month by month. -/
theorem sum_all (c y : Int) (c1 : 1 ≤ c) (c2 : c ≤ 10) (h1 : -20099 ≤ y) (h2 : y ≤ 20899) : upTo c y (months c y).toNat = yearDays c y := by
  by_cases h : c = 7
  · rw [h]; exact sum_heb y h1 h2
  · exact sum_plain c y c1 c2 h
/-- 353 to 385 days. -/
theorem days_bd (c y : Int) (c1 : 1 ≤ c) (c2 : c ≤ 10) (h1 : -20099 ≤ y) (h2 : y ≤ 20899) : 353 ≤ yearDays c y ∧ yearDays c y ≤ 385 := by
  by_cases h : c = 7
  · obtain ⟨k, k1, k2, e⟩ := days_heb y h1 h2
    rw [h, e]; split <;> omega
  · rw [days_plain c y c1 c2 h]; unfold base; split <;> split <;> omega
end Dm
