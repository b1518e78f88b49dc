/- Plain: a stamp's text is read back. -/
import Derived.Test.YtkfpnlenmdlmjaaGreatDoorZBakA
import Derived.Test.YtkfpnlenmdlmjaaGreatDoorZG7
import Derived.Test.YtkfpnlenmdlmjaaGreatDoorZG11
import Derived.Test.YtkfpnlenmdlmjaaGreatDoorZTxtD
namespace Go.Proofs.YtkfpnlenmdlmjaaGreatDoor
open Go.RowKit Scm Bk
theorem segB {s : ByteArray} {k : Nat} {ds t : List UInt8} (h : s.data.toList.drop k = ds ++ t) (hd : DigL ds) : dgB s k ds.length = true ∧ dgN s k ds.length = valD ds ∧ dgK s k ds.length = k + ds.length := by
  have hr : ds.length ≤ run_ s k := by
    show ds.length ≤ cnt (s.data.toList.drop k)
    rw [h, cnt_app hd]; omega
  have q := dg_yes hr
  exact ⟨q.1, by rw [q.2.1]; exact numF_seg h, q.2.2⟩
theorem runB {s : ByteArray} {k : Nat} {ds t : List UInt8} (h : s.data.toList.drop k = ds ++ t) (hd : DigL ds) (ht : cnt t = 0) : run_ s k = ds.length := by
  show cnt (s.data.toList.drop k) = _
  rw [h, cnt_app hd, ht]; rfl
theorem chrB {s : ByteArray} {k : Nat} {c : UInt8} {t : List UInt8} (h : s.data.toList.drop k = c :: t) (b : UInt8) : isB s k b = (c == b) := by
  unfold isB; rw [at_drop h]; rfl
theorem endB {s : ByteArray} {k : Nat} (h : s.data.toList.drop k = []) (b : UInt8) : isB s k b = false := by
  unfold isB; rw [List.getElem?_eq_none (drop_nil h)]; rfl
theorem drop1 {s : ByteArray} {k : Nat} {c : UInt8} {t : List UInt8} (h : s.data.toList.drop k = c :: t) : s.data.toList.drop (k + 1) = t := by
  rw [← List.drop_drop, h]; rfl
/-- A number with so many digits. -/
theorem pad_dig {n : Int} {w : Nat} (h0 : 0 ≤ n) (h : n < ((10 ^ (w + 1) : Nat) : Int)) : DigL (padL n (w + 1)) ∧ (padL n (w + 1)).length = w + 1 ∧ ((valD (padL n (w + 1)) : Nat) : Int) = n := by
  obtain ⟨m, rfl⟩ : ∃ m : Nat, n = m := ⟨n.toNat, by omega⟩
  unfold padL
  rw [Lib.itoa_nonneg]
  obtain ⟨hd, hv, -⟩ := dec_dig m
  have hl := dec_len w m (by omega)
  refine ⟨fun c hc => ?_, by rw [List.length_append, List.length_replicate]; omega, by rw [valD_zeros, hv]⟩
  rcases List.mem_append.1 hc with hc | hc
  · rw [(List.mem_replicate.1 hc).2]; decide
  · exact hd c hc
theorem dig_head {ds t : List UInt8} (hd : DigL ds) (hl : 0 < ds.length) : ∃ c l, ds ++ t = c :: l ∧ c.toNat ≤ 57 ∧ 48 ≤ c.toNat := by
  cases ds with
  | nil => simp at hl
  | cons c ds => exact ⟨c, ds ++ t, rfl, (hd c (List.mem_cons_self ..)).2, (hd c (List.mem_cons_self ..)).1⟩
theorem ne_of_dig {c b : UInt8} (h : c.toNat ≤ 57) (hb : 57 < b.toNat) : (c == b) = false := by
  rw [Bool.eq_false_iff]; intro e; rw [beq_iff_eq.1 e] at h; omega
theorem ne_of_dig2 {c b : UInt8} (h : 48 ≤ c.toNat) (hb : b.toNat < 48) : (c == b) = false := by
  rw [Bool.eq_false_iff]; intro e; rw [beq_iff_eq.1 e] at h; omega
theorem year_at {s : ByteArray} {y : Int} {t : List UInt8} (h : s.data.toList = yearL y ++ 45 :: t) (y1 : -20000 ≤ y) (y2 : y ≤ 20000) :
    yrB s 0 = true ∧ yrY s 0 = y ∧ s.data.toList.drop (yrE s 0) = 45 :: t := by
  have h' : s.data.toList.drop 0 = yearL y ++ 45 :: t := h
  unfold yearL at h'
  split at h'
  · rename_i hy
    have hm : isB s 0 45 = true := by rw [chrB h']; rfl
    obtain ⟨e1, e2, e3⟩ := yr_minus hm
    obtain ⟨p1, p2, p3⟩ := pad_dig (n := -y) (w := 4) (by omega) (by simp; omega)
    have h1 := drop1 h'
    obtain ⟨q1, q2, q3⟩ := segB h1 p1
    rw [p2] at q1 q2 q3
    refine ⟨by unfold yrB; rw [e1, e2]; exact q1, by unfold yrY; rw [e1, e2, e3]; show -1 * ((dgN s (0 + 1) (4 + 1) : Nat) : Int) = y; rw [q2, p3]; omega, ?_⟩
    unfold yrE
    rw [e1, e2]
    show s.data.toList.drop (dgK s (0 + 1) (4 + 1)) = _
    rw [q3, ← p2]
    exact drop_add h1
  · split at h'
    · rename_i hy0 hy
      have hm : isB s 0 45 = false := by rw [chrB h']; rfl
      have hp : isB s 0 43 = true := by rw [chrB h']; rfl
      obtain ⟨e1, e2, e3⟩ := yr_plus hm hp
      obtain ⟨p1, p2, p3⟩ := pad_dig (n := y) (w := 4) (by omega) (by simp; omega)
      have h1 := drop1 h'
      obtain ⟨q1, q2, q3⟩ := segB h1 p1
      rw [p2] at q1 q2 q3
      refine ⟨by unfold yrB; rw [e1, e2]; exact q1, by unfold yrY; rw [e1, e2, e3]; show 1 * ((dgN s (0 + 1) (4 + 1) : Nat) : Int) = y; rw [q2, p3]; omega, ?_⟩
      unfold yrE
      rw [e1, e2]
      show s.data.toList.drop (dgK s (0 + 1) (4 + 1)) = _
      rw [q3, ← p2]
      exact drop_add h1
    · rename_i hy0 hy
      obtain ⟨p1, p2, p3⟩ := pad_dig (n := y) (w := 3) (by omega) (by simp; omega)
      obtain ⟨c, l, hc, hc1, hc2⟩ := dig_head (t := 45 :: t) p1 (by rw [p2]; omega)
      have hm : isB s 0 45 = false := by rw [chrB (h'.trans hc)]; exact ne_of_dig2 hc2 (by decide)
      have hp : isB s 0 43 = false := by rw [chrB (h'.trans hc)]; exact ne_of_dig2 hc2 (by decide)
      obtain ⟨e1, e2, e3⟩ := yr_none hm hp
      obtain ⟨q1, q2, q3⟩ := segB h' p1
      rw [p2] at q1 q2 q3
      refine ⟨by unfold yrB; rw [e1, e2]; exact q1, by unfold yrY; rw [e1, e2, e3]; show 1 * ((dgN s 0 (3 + 1) : Nat) : Int) = y; rw [q2, p3]; omega, ?_⟩
      unfold yrE
      rw [e1, e2]
      have q4 := drop_add h'
      rw [p2] at q4
      show s.data.toList.drop (dgK s 0 (3 + 1)) = _
      rw [q3]
      exact q4
/-- Two digits at a place. -/
theorem two_at {s : ByteArray} {k : Nat} {n : Int} {t : List UInt8} (h : s.data.toList.drop k = padL n 2 ++ t) (h0 : 0 ≤ n) (h1 : n < 100) : dgB s k 2 = true ∧ ((dgN s k 2 : Nat) : Int) = n ∧ dgK s k 2 = k + 2 ∧ s.data.toList.drop (k + 2) = t := by
  obtain ⟨p1, p2, p3⟩ := pad_dig (n := n) (w := 1) h0 (by simp; omega)
  obtain ⟨q1, q2, q3⟩ := segB h p1
  have q4 := drop_add h
  rw [p2] at q1 q2 q3 q4
  exact ⟨q1, by show ((dgN s k (1 + 1) : Nat) : Int) = n; rw [q2, p3], q3, q4⟩
theorem day_at {s : ByteArray} {y m d : Int} {t : List UInt8} (h : s.data.toList = yearL y ++ 45 :: (padL m 2 ++ 45 :: (padL d 2 ++ t))) (y1 : -20000 ≤ y) (y2 : y ≤ 20000) (m0 : 0 ≤ m) (m1 : m < 100) (d0 : 0 ≤ d) (d1 : d < 100) :
    ∃ k, dayP s 0 = ⟨dayR 1 y m d, true, dayE 1 y m d, -1, k⟩ ∧ s.data.toList.drop k = t := by
  obtain ⟨a1, a2, a3⟩ := year_at h y1 y2
  have b1 : isB s (yrE s 0) 45 = true := by rw [chrB a3]; rfl
  have b2 := drop1 a3
  obtain ⟨p1, p2, p3⟩ := pad_dig (n := m) (w := 1) m0 (by simp; omega)
  obtain ⟨c, l, hc, hc1, hc2⟩ := dig_head (t := 45 :: (padL d 2 ++ t)) p1 (by rw [p2]; omega)
  have b3 : isB s (yrE s 0 + 1) 87 = false := by rw [chrB (b2.trans hc)]; exact ne_of_dig hc1 (by decide)
  have b4 : run_ s (yrE s 0 + 1) = 2 := by rw [runB b2 p1 (cnt_stop (by decide)), p2]
  obtain ⟨c1, c2, c3, c4⟩ := two_at b2 m0 m1
  have d45 : isB s (yrE s 0 + 1 + 2) 45 = true := by rw [chrB c4]; rfl
  obtain ⟨e1, e2, e3, e4⟩ := two_at (drop1 c4) d0 d1
  refine ⟨yrE s 0 + 1 + 2 + 1 + 2, ?_, e4⟩
  unfold dayP
  rw [if_pos a1, b1, isK_yes b1, a2]
  unfold dayA
  rw [if_neg (by rw [b3]; decide), if_neg (by rw [b4]; decide)]
  unfold mdP
  rw [if_pos c1, c3, if_neg (by rw [d45]; decide), if_pos rfl, if_pos e1, e3, c2, e2]
theorem clock_at {s : ByteArray} {k : Nat} {h mi sc : Int} {t : List UInt8} (g : s.data.toList.drop k = padL h 2 ++ 58 :: (padL mi 2 ++ 58 :: (padL sc 2 ++ t))) (h0 : 0 ≤ h) (h1 : h ≤ 23) (m0 : 0 ≤ mi) (m1 : mi ≤ 59) (s0 : 0 ≤ sc) (s1 : sc ≤ 59) :
    ∃ k', clockP s true k = ⟨(h * 60 + mi) * 60 + sc, 0, -1, k'⟩ ∧ s.data.toList.drop k' = t := by
  obtain ⟨a1, a2, a3, a4⟩ := two_at g h0 (by omega)
  have b1 : isB s (k + 2) 58 = true := by rw [chrB a4]; rfl
  obtain ⟨c1, c2, c3, c4⟩ := two_at (drop1 a4) m0 (by omega)
  have d1 : isB s (k + 2 + 1 + 2) 58 = true := by rw [chrB c4]; rfl
  obtain ⟨e1, e2, e3, e4⟩ := two_at (drop1 c4) s0 (by omega)
  refine ⟨k + 2 + 1 + 2 + 1 + 2, ?_, e4⟩
  unfold clockP
  simp only [if_true]
  rw [if_pos a1, a3, if_neg (by rw [b1]; decide), if_pos c1, c3, if_pos d1, if_pos e1, e3]
  unfold ckEnd
  rw [if_neg (by omega), if_neg (by omega), a2, c2, e2]
theorem zone_none {s : ByteArray} {k : Nat} (g : s.data.toList.drop k = []) : zoneP s true k = ⟨0, 0, 0, -1, k⟩ := by
  unfold zoneP
  rw [if_neg (by rw [endB g]; decide), if_neg (by rw [endB g]; decide), if_neg (by rw [endB g]; decide)]
theorem zone_zulu {s : ByteArray} {k : Nat} (g : s.data.toList.drop k = [90]) : zoneP s true k = ⟨1, 0, 0, -1, k + 1⟩ ∧ s.data.toList.drop (k + 1) = [] := by
  refine ⟨?_, drop1 g⟩
  unfold zoneP
  rw [if_pos (by rw [chrB g]; rfl)]
theorem zone_off {s : ByteArray} {k : Nat} {o : Int} (g : s.data.toList.drop k = offS o) (h : offE o = 0) : ∃ k', zoneP s true k = ⟨2, o, 0, -1, k'⟩ ∧ s.data.toList.drop k' = [] := by
  have hb : -86400 < o ∧ o < 86400 ∧ o % 60 = 0 := by
    unfold offE at h
    split at h
    · exact absurd h (by decide)
    · rename_i hn; omega
  unfold offS at g
  have key : ∀ (A sg : Int), 0 ≤ A → A < 86400 → s.data.toList.drop (k + 1) = padL (A / 3600) 2 ++ 58 :: (padL (A / 60 % 60) 2 ++ []) → sg * A = o → A % 60 = 0 → ∃ k', znP s true sg (k + 1) = ⟨2, o, 0, -1, k'⟩ ∧ s.data.toList.drop k' = [] := by
    intro A sg a0 a1 g1 hA hm
    obtain ⟨c1, c2, c3, c4⟩ := two_at g1 (by omega) (by omega)
    have d1 : isB s (k + 1 + 2) 58 = true := by rw [chrB c4]; rfl
    obtain ⟨e1, e2, e3, e4⟩ := two_at (drop1 c4) (by omega) (by omega)
    refine ⟨k + 1 + 2 + 1 + 2, ?_, e4⟩
    unfold znP
    simp only [if_true]
    rw [if_pos c1, c3, if_neg (by rw [d1]; decide), if_pos e1, e3, if_neg (by omega), c2, e2]
    congr 1
    have e : (A / 3600 * 60 + A / 60 % 60) * 60 = A := by omega
    rw [Int.mul_assoc, e, hA]
  by_cases ho : o < 0
  · simp only [if_pos ho, List.append_assoc, List.cons_append, List.nil_append] at g
    obtain ⟨k', q1, q2⟩ := key (-o) (-1) (by omega) (by omega) (by rw [drop1 g]; simp) (by omega) (by omega)
    refine ⟨k', ?_, q2⟩
    unfold zoneP
    rw [if_neg (by rw [chrB g]; decide), if_pos (by rw [chrB g]; rfl)]
    exact q1
  · simp only [if_neg ho, List.append_assoc, List.cons_append, List.nil_append] at g
    obtain ⟨k', q1, q2⟩ := key o 1 (by omega) (by omega) (by rw [drop1 g]; simp) (by omega) (by omega)
    refine ⟨k', ?_, q2⟩
    unfold zoneP
    rw [if_neg (by rw [chrB g]; decide), if_neg (by rw [chrB g]; decide), if_pos (by rw [chrB g]; rfl)]
    exact q1
/-- A stamp's text is read back. -/
theorem stamp_back {t z o : Int} {R : List UInt8} (h : StR t z o R 0) : parP ⟨R.toArray⟩ = ⟨t, z, o, 0, -1⟩ := by
  obtain ⟨S, e, hS, hF⟩ := h
  have hz : ∃ Z, R = S ++ Z ∧ e = 0 ∧ ((z = 0 ∧ o = 0 ∧ Z = []) ∨ (z = 1 ∧ o = 0 ∧ Z = [90]) ∨ (z = 2 ∧ offE o = 0 ∧ Z = offS o)) := by
    unfold stF at hF
    split at hF
    · rename_i he; exact absurd (congrArg Prod.snd hF) he
    · rename_i he
      have he0 : e = 0 := Decidable.not_not.1 he
      split at hF
      · rename_i h2
        split at hF
        · rename_i h3; exact absurd (congrArg Prod.snd hF) h3
        · rename_i h3
          have h30 : offE o = 0 := Decidable.not_not.1 h3
          have hR : R = S ++ offL o := (congrArg Prod.fst hF).symm
          have hO : offL o = offS o := if_pos h30
          exact ⟨offS o, by rw [hR, hO], he0, .inr (.inr ⟨h2, h30, rfl⟩)⟩
      · rename_i h2
        split at hF
        · exact absurd (congrArg Prod.snd hF) (by show (1 : Int) ≠ 0; decide)
        · rename_i h3
          have hR : R = S ++ (if z = 1 then [90] else []) := (congrArg Prod.fst hF).symm
          by_cases h1 : z = 1
          · exact ⟨[90], by rw [hR]; simp [h1], he0, .inr (.inl ⟨h1, by omega, rfl⟩)⟩
          · exact ⟨[], by rw [hR]; simp [h1], he0, .inl ⟨by omega, by omega, rfl⟩⟩
  obtain ⟨Z, rfl, rfl, hZ⟩ := hz
  cases hS with
  | ok h1 hr =>
    rename_i a y m d h mi sc
    rcases hr with ⟨hr, -⟩ | ⟨t1, t2, hof, hh, hmi, hsc⟩
    · omega
    · rcases hof with ⟨hE, -⟩ | ⟨-, -, c1, c2, hv, hd⟩
      · exact absurd (ofE_ok (by decide) (by decide) (by omega) (by omega)) hE
      · obtain ⟨f1, f2⟩ := dayE_back c1 c2 hv hd (by omega) (by omega)
        obtain ⟨y1, y2, m1, m2, d1, d2⟩ := hv
        have m3 : m ≤ 12 := by have e : Dm.months 1 y = 12 := by simp [Dm.months]
                               omega
        have d3 : d ≤ 31 := by have e := Dm.greg_len y m m1 m3; omega
        obtain ⟨s, hs⟩ : ∃ s : ByteArray, (⟨(textL6 y m d h mi sc ++ Z).toArray⟩ : ByteArray) = s := ⟨_, rfl⟩
        rw [hs]
        have hl : s.data.toList = yearL y ++ 45 :: (padL m 2 ++ 45 :: (padL d 2 ++ 84 :: (padL h 2 ++ 58 :: (padL mi 2 ++ 58 :: (padL sc 2 ++ Z))))) := by
          rw [← hs]; unfold textL6; simp
        obtain ⟨k1, p1, g1⟩ := day_at hl y1 y2 (by omega) (by omega) (by omega) (by omega)
        obtain ⟨k2, p2, g2⟩ := clock_at (drop1 g1) (by omega) (by omega) (by omega) (by omega) (by omega) (by omega)
        have hT : isB s k1 84 = true := by rw [chrB g1]; rfl
        have hzn : ∃ k3, zoneP s true k2 = ⟨z, o, 0, -1, k3⟩ ∧ s.data.toList.drop k3 = [] := by
          rcases hZ with ⟨rfl, rfl, rfl⟩ | ⟨rfl, rfl, rfl⟩ | ⟨rfl, h2, rfl⟩
          · exact ⟨k2, zone_none g2, g2⟩
          · exact ⟨k2 + 1, (zone_zulu g2).1, (zone_zulu g2).2⟩
          · exact zone_off g2 h2
        obtain ⟨k3, p3, g3⟩ := hzn
        have hk : ¬ k3 < s.size := by have := drop_nil g3; rw [lenT] at this; omega
        unfold parP parD
        rw [p1]
        dsimp only
        rw [if_pos f1, if_pos hT, p2]
        unfold parC
        dsimp only
        rw [if_pos rfl, p3]
        dsimp only
        rw [if_pos rfl]
        unfold endP
        have hne : ¬ (h * 60 + mi) * 60 + sc = 86400 := by omega
        rw [if_neg hk]
        simp only [if_neg hne, f2]
        have hj : joinE (t / 86400) ((h * 60 + mi) * 60 + sc) = 0 := by
          unfold joinE; rw [if_neg (by omega), if_pos (by omega)]
        rw [if_pos hj]
        congr 1
        unfold joinR
        rw [if_pos hj]
        omega
end Go.Proofs.YtkfpnlenmdlmjaaGreatDoor
