/- The law TextParses. -/
import Derived.Test.YtidgahnamdhflaaDoorPsxO
import Derived.Test.YtidgahnamdhflaaDoorPsxS
namespace Go.Proofs.YtidgahnamdhflaaDoor
open Go.RowKit Go.Shelf Fld Prt Psx
theorem ptB_zero (B k : Nat) : PtB B (k + 1) part0 := by
  unfold PtB
  exact ⟨Nat.zero_le _, Nat.zero_le _, fun x (h : x ∈ ([] : List Ln)) => (List.not_mem_nil h).elim, fun c (h : c ∈ ([] : List Part)) => (List.not_mem_nil h).elim⟩
/-- What is parsed is not too great. -/
theorem parseP_bound (s : ByteArray) : PtB 100000 8 (parseP s.data.toList).2.2 := by
  by_cases h : (parseP s.data.toList).1 = 0
  · by_cases h1 : 100000 < s.size
    · rw [parseP_long (l := s.data.toList) (by rw [len_eq]; exact h1)] at h
      exact absurd h (by decide)
    · by_cases h2 : 2000 < (unfL s.data.toList).length
      · rw [parseP_many (l := s.data.toList) (by rw [len_eq]; exact h1) h2] at h
        exact absurd h (by decide)
      · refine parseP_many_ok (by omega) (fun i => ?_) h
        by_cases hi : i < (unfL s.data.toList).length
        · exact Nat.le_trans (unfL_at s i hi) (by omega)
        · have h3 : (unfL s.data.toList).getD i [] = [] := by simp [List.getD, List.getElem?_eq_none (Nat.le_of_not_lt hi)]
          rw [h3]; exact Nat.zero_le _
  · rw [parseP_none h]; exact ptB_zero _ _
set_option maxRecDepth 100000 in
set_option maxHeartbeats 8000000 in
theorem textParses_walk (s : ByteArray) (w : World) (hT : ErrT w) (hs : s.size ≤ 9223372036854775807) :
    Calls Tryd.prog 4 #[.string s] w fun e w' => e = .returned (.bool true) ∧ Below w.heap.size w w' := by
  have HPB := Lib.hid (parseP_bound s)
  have C1 := Lib.hid (plainParse_any s w hT hs)
  have C2 : Hid (∀ w0, Calls Tryd.prog 11 #[.string s] w0 (RPPost (parseP s.data.toList) w0)) := Lib.hid fun w0 => partParse_any s w0 hs
  obtain ⟨R, hR⟩ : ∃ R, parseP s.data.toList = R := ⟨_, rfl⟩
  rw [hR] at HPB C1 C2
  obtain ⟨x, pl, P⟩ := R
  clear hR hT hs
  go_enter Tryd.func4, Tryd.ntmps4
  go_upto_region 3 with (first
    | (go_at_call 10; (with_reducible refine C1.out.mono ?_); rintro e w1 ⟨ou1, n1, c1, ov1, m1, d1, rfl, hq, hb⟩; have HQ1 := Lib.hid hq; have HB1 := Lib.hid hb; clear hq hb)
    | (go_at_call 11; (with_reducible refine (C2.out _).mono ?_); rintro e w2 ⟨ou2, n2, c2, ov2, m2, d2, rfl, hq, hb⟩; have HQ2 := Lib.hid hq; have HB2 := Lib.hid hb; clear hq hb))
  obtain ⟨W, hW⟩ : ∃ W, (w2.alloc (.cells #[.string P.name, .slice ou2 n2 c2, .slice ov2 m2 d2] 25)).alloc (.cells #[.int .i64 x, .int .i64 pl] 34) = W := ⟨_, rfl⟩
  have HB3 : Hid (Below w2.heap.size w2 W) := Lib.hid (by rw [← hW]; exact ((Below.refl _ _).alloc (Nat.le_refl _) _).alloc (by simp) _)
  have HBW : Hid (Below w.heap.size w W) := Lib.hid (thenB (thenB (thenB HB1.out ((Below.refl _ _).alloc (Nat.le_refl _) _)) HB2.out) HB3.out)
  have hA : Below w1.heap.size w1 (w1.alloc (.cells #[.string P.name, .slice ou1 n1 c1, .slice ov1 m1 d1] 25)) := (Below.refl _ _).alloc (Nat.le_refl _) _
  have hs1 : ∀ b, (w.heap.size ≤ b ∧ b < w1.heap.size) → b < w1.heap.size := fun b h => h.2
  have hs2 : ∀ b, ((w1.alloc (.cells #[.string P.name, .slice ou1 n1 c1, .slice ov1 m1 d1] 25)).heap.size ≤ b ∧ b < w2.heap.size) → b < w2.heap.size := fun b h => h.2
  have hb12 : Below w1.heap.size w1 w2 := hA.trans (HB2.out.mono hA.size)
  have q1 := (HQ1.out.call hs1 (thenB hb12 HB3.out))
  have q2 := (HQ2.out.call hs2 HB3.out)
  have CS := Lib.hid (samePart_any 100000 (by decide) 8 P W _ _ _ _ _ _ HPB.out q1 q2 (fun b h => Nat.lt_of_lt_of_le h.2 (thenB hb12 HB3.out).size) (fun b h => Nat.lt_of_lt_of_le h.2 HB3.out.size))
  have x0 : W.cell? ⟨w1.heap.size, 0, none⟩ = some (.string P.name) := ((thenB HB2.out HB3.out).cell (p := ⟨w1.heap.size, 0, none⟩) (by simp)).trans (by simp)
  have x1 : W.cell? ⟨w1.heap.size, 1, none⟩ = some (.slice ou1 n1 c1) := ((thenB HB2.out HB3.out).cell (p := ⟨w1.heap.size, 1, none⟩) (by simp)).trans (by simp)
  have x2 : W.cell? ⟨w1.heap.size, 2, none⟩ = some (.slice ov1 m1 d1) := ((thenB HB2.out HB3.out).cell (p := ⟨w1.heap.size, 2, none⟩) (by simp)).trans (by simp)
  have y0 : W.cell? ⟨w2.heap.size, 0, none⟩ = some (.string P.name) := by rw [← hW]; simp
  have y1 : W.cell? ⟨w2.heap.size, 1, none⟩ = some (.slice ou2 n2 c2) := by rw [← hW]; simp
  have y2 : W.cell? ⟨w2.heap.size, 2, none⟩ = some (.slice ov2 m2 d2) := by rw [← hW]; simp
  have z0 : W.cell? ⟨w2.heap.size + 1, 0, none⟩ = some (.int .i64 x) := by rw [← hW]; simp
  have z1 : W.cell? ⟨w2.heap.size + 1, 1, none⟩ = some (.int .i64 pl) := by rw [← hW]; simp
  have z2 : w2.heap.size + 1 < W.heap.size := by rw [← hW]; simp
  rw [hW]
  clear q1 q2 hs1 hs2 hA hb12 hW
  go_wp2_with (go_at_call 12; (with_reducible refine CS.out.mono ?_); rintro e w3 ⟨rfl, hb⟩; have HB4 := Lib.hid (thenB HBW.out hb); have t0 := (hb.cell (p := ⟨w2.heap.size + 1, 0, none⟩) z2).trans z0; have t1 := (hb.cell (p := ⟨w2.heap.size + 1, 1, none⟩) z2).trans z1; clear hb x0 x1 x2 y0 y1 y2 z0 z1)
  go_ret
  exact ⟨rfl, HB4.out⟩
end Go.Proofs.YtidgahnamdhflaaDoor
