/- The days of a year with a month and day. -/
import Derived.Test.YtbgcccfgcdkmdaaGreatDoorWrkB
import Derived.Test.YtbgcccfgcdkmdaaGreatDoorDaysV
import Derived.Test.YtbgcccfgcdkmdaaGreatDoorWrkE
import Derived.Test.YtbgcccfgcdkmdaaGreatDoorAppend
namespace Go.Proofs.YtbgcccfgcdkmdaaGreatDoor
open Go.RowKit Wrk
theorem cells_atI {w : World} {z : Nat} (hz : w.heap.size = z) (vs : List Value) (e : TypeId) : ∀ j u, vs[j]? = some u → (w.alloc (.cells vs.toArray e)).cell? ((⟨z, 0, none⟩ : Addr).add j) = some u := by
  subst hz; exact cells_here w vs e
theorem step_eq (Y : Int) (k : Nat) : Value.int .i64 (Y + (k : Int) + 1) = .int .i64 (Y + ((k + 1 : Nat) : Int)) := by congr 1; omega
def datedL (c m d a b Y : Int) : Nat → List Int
  | 0 => []
  | k + 1 => datedL c m d a b Y k ++ (if dayE c (Y + k) m d = 0 ∧ a ≤ dayR c (Y + k) m d ∧ dayR c (Y + k) m d < b then [dayR c (Y + k) m d] else [])
theorem datedL_len (c m d a b Y : Int) : ∀ k, (datedL c m d a b Y k).length ≤ k
  | 0 => Nat.le_refl _
  | k + 1 => by
    have := datedL_len c m d a b Y k
    unfold datedL
    rw [List.length_append]
    split <;> simp <;> omega
theorem datedL_mem (c m d a b Y t : Int) : ∀ k, t ∈ datedL c m d a b Y k ↔ ∃ j : Nat, j < k ∧ dayE c (Y + j) m d = 0 ∧ a ≤ t ∧ t < b ∧ t = dayR c (Y + j) m d
  | 0 => by simp [datedL]
  | k + 1 => by
    unfold datedL
    rw [List.mem_append, datedL_mem c m d a b Y t k]
    constructor
    · rintro (⟨j, h1, h2⟩ | h)
      · exact ⟨j, by omega, h2⟩
      · split at h
        · rename_i g
          have e := List.mem_singleton.1 h
          subst e
          exact ⟨k, by omega, g.1, g.2.1, g.2.2, rfl⟩
        · simp at h
    · rintro ⟨j, h1, h2, h3, h4, h5⟩
      by_cases hj : j < k
      · exact .inl ⟨j, hj, h2, h3, h4, h5⟩
      · have : j = k := by omega
        subst this
        rw [h5] at h3 h4
        exact .inr (by rw [if_pos ⟨h2, h3, h4⟩, h5]; exact List.mem_singleton.2 rfl)
theorem dated_on {x : Hol} {y Y m0 d0 t : Int} (hk : x.kind = 1) (c1 : 1 ≤ x.cal) (c2 : x.cal ≤ 10) (h1 : 1 ≤ y) (h2 : y ≤ 9999) (hv : Dm.Valid x.cal Y m0 d0) (hd : Dm.dayOf x.cal Y m0 d0 = y1 y) :
    t ∈ datedL x.cal x.month x.day (y1 y) (y1 (y + 1)) Y 3 ↔ OnD x y t := by
  have hb := y1_bd y h1 (by omega)
  have hyl := year_in c1 c2 hv hd (by omega) (by omega)
  rw [datedL_mem]
  unfold OnD
  rw [if_pos hk]
  constructor
  · rintro ⟨j, g1, g2, g3, g4, g5⟩
    obtain ⟨-, -, g6, g7, g8, g9⟩ := dayE_valid g2
    exact ⟨g3, g4, _, g6, by rw [g5, g9]⟩
  · rintro ⟨g3, g4, yy, g6, g7⟩
    obtain ⟨u1, u2⟩ := three_years c1 c2 hv hd g6 (by omega) (by omega) hyl
    obtain ⟨u3, u4⟩ := dayE_back c1 c2 g6 g7 (by omega) (by omega)
    refine ⟨(yy - Y).toNat, by omega, ?_⟩
    have e : Y + ((yy - Y).toNat : Int) = yy := by omega
    rw [e]
    exact ⟨u3, g3, g4, u4.symm⟩
set_option maxRecDepth 100000 in
set_option maxHeartbeats 8000000 in
theorem dated_any (x : Hol) (y : Int) (w : World) (hr : RomanT w) (hk : x.kind = 1) (c1 : 1 ≤ x.cal) (c2 : x.cal ≤ 10) (h1 : 1 ≤ y) (h2 : y ≤ 9999) :
    Calls Tryz.prog 80 #[holV x, .int .i64 (y1 y), .int .i64 (y1 (y + 1))] w fun e w' => ∃ v l, e = .returned v ∧ IntL w' w.heap.size v l ∧ l.length ≤ 3 ∧ (∀ t, t ∈ l ↔ OnD x y t) ∧ Below w.heap.size w w' := by
  have hb := y1_bd y h1 (by omega)
  have CO : Hid (∀ w0, RomanT w0 → Calls Tryz.prog 70 #[.int .i64 x.cal, .int .i64 (y1 y)] w0 (fun e w' => (∃ Y m0 d0, e = .returned (.tuple #[.agg #[.int .i64 x.cal, .int .i64 Y, .int .i64 m0, .int .i64 d0], .nilIface]) ∧ Dm.Valid x.cal Y m0 d0 ∧ Dm.dayOf x.cal Y m0 d0 = y1 y) ∧ Below w0.heap.size w0 w')) := Lib.hid fun w0 h => (dof_all x.cal (y1 y) w0 h).mono fun e w' ⟨a, Y, m, d, g1, g2, g3⟩ => by
    have e0 := ofE_ok c1 c2 (n := y1 y) (by omega) (by omega)
    rcases g2 with ⟨g, -⟩ | ⟨-, ga, -, -, gv, gd⟩
    · exact absurd e0 g
    · subst ga
      exact ⟨⟨Y, m, d, by rw [g1, e0]; rfl, gv, gd⟩, g3⟩
  obtain ⟨i0, hi0, hz0, hz1, hz2⟩ := info_parts Tryz.info3
  obtain ⟨a, ha⟩ : ∃ a, y1 y = a := ⟨_, rfl⟩
  obtain ⟨b, hbb⟩ : ∃ b, y1 (y + 1) = b := ⟨_, rfl⟩
  have HON := Lib.hid (fun (Y m0 d0 : Int) hv hd t => dated_on (t := t) hk c1 c2 h1 h2 (Y := Y) (m0 := m0) (d0 := d0) hv hd)
  rw [ha, hbb] at HON
  rw [ha] at CO
  rw [ha, hbb] at hb ⊢
  obtain ⟨P, hP⟩ : ∃ P : Int → Prop, ∀ t, OnD x y t ↔ P t := ⟨_, fun t => Iff.rfl⟩
  simp only [hP] at HON ⊢
  obtain ⟨ki, ca, mo, dy, nn, wd, of, lo, hi, mvs⟩ := x
  unfold holV
  simp only at CO HON ⊢
  obtain ⟨wB, hwB⟩ : ∃ W, w.alloc (.cells #[.int .i64 ki, .int .i64 ca, .int .i64 mo, .int .i64 dy, .int .i64 nn, .int .i64 wd, .int .i64 of, .int .i64 lo, .int .i64 hi, .int .i64 mvs] 59) = W := ⟨_, rfl⟩
  have hB : Below w.heap.size w wB := by rw [← hwB]; exact (Below.refl _ _).alloc (Nat.le_refl _) _
  have HB := Lib.hid hB
  have HRB := Lib.hid (RomanT.call hr hB)
  have HLT := Lib.hid (show w.heap.size < wB.heap.size by rw [← hwB]; simp)
  have f1 : wB.cell? ⟨w.heap.size, 1, none⟩ = some (.int .i64 ca) := by rw [← hwB]; simp
  have f2 : wB.cell? ⟨w.heap.size, 2, none⟩ = some (.int .i64 mo) := by rw [← hwB]; simp
  have f3 : wB.cell? ⟨w.heap.size, 3, none⟩ = some (.int .i64 dy) := by rw [← hwB]; simp
  clear hB hr hP ha hbb hk
  go_enter Tryz.func80, Tryz.ntmps80
  go_upto_region 1 with fail
  clear hwB
  go_wp2_with (go_at_call 70; (with_reducible refine (CO.out _ HRB.out).mono ?_); rintro e w2 ⟨⟨Y, m0, d0, rfl, hv, hd⟩, hb2⟩; have HV := Lib.hid hv; have HON2 := Lib.hid (HON.out Y m0 d0 hv hd); have HB2 := Lib.hid hb2; clear hv hd hb2)
  obtain ⟨wC, hwC⟩ : ∃ W, w2.alloc (.cells #[.int .i64 ca, .int .i64 Y, .int .i64 m0, .int .i64 d0] 89) = W := ⟨_, rfl⟩
  have hC : Below w2.heap.size w2 wC := by rw [← hwC]; exact (Below.refl _ _).alloc (Nat.le_refl _) _
  have HBC := Lib.hid (thenB HB2.out hC)
  have HW := Lib.hid (thenB HB.out HBC.out)
  have HRC := Lib.hid (RomanT.call HRB.out HBC.out)
  have HL2 := Lib.hid (show w2.heap.size < wC.heap.size by rw [← hwC]; simp)
  have HL1 := Lib.hid (show w.heap.size < wC.heap.size from Nat.lt_of_lt_of_le HLT.out HBC.out.size)
  have hY : wC.cell? ⟨w2.heap.size, 1, none⟩ = some (.int .i64 Y) := by rw [← hwC]; simp
  have g1 := (HBC.out.cell (p := ⟨w.heap.size, 1, none⟩) HLT.out).trans f1
  have g2 := (HBC.out.cell (p := ⟨w.heap.size, 2, none⟩) HLT.out).trans f2
  have g3 := (HBC.out.cell (p := ⟨w.heap.size, 3, none⟩) HLT.out).trans f3
  obtain ⟨z2, hz2'⟩ : ∃ z, w2.heap.size = z := ⟨_, rfl⟩
  rw [hz2'] at HL2 hY ⊢
  rw [hwC]
  have HF := Lib.hid (And.intro hY (And.intro g1 (And.intro g2 g3)))
  clear f1 f2 f3 hC hY g1 g2 g3 hwC hz2' HB2 HBC HRB
  have hYb : -20000 ≤ Y ∧ Y ≤ 20000 := ⟨HV.out.1, HV.out.2.1⟩
  have hy2 : wrap64 (Y + 2) = Y + 2 := wrap_in (InI.mk (by omega) (by omega))
  go_loopw [9, 10] (fun v c wr => ∃ (ob : Option Addr) (n cap k : Nat), v = .slice ob n cap ∧ c = .int .i64 (Y + (k : Int)) ∧ k ≤ 3 ∧ Hid (IntL wr wC.heap.size (.slice ob n cap) (datedL ca mo dy a b Y k)) ∧ Hid (Below wC.heap.size wC wr)) (fun _ c _ => (Y + 3 - intOf c).toNat)
  case atStart => exact ⟨none, 0, 0, 0, rfl, by simp, by omega, Lib.hid (IntL.nil _ _), Lib.hid (Below.refl _ _)⟩
  case round =>
    obtain ⟨ob, n, cap, k, rfl, rfl, hk, HS, HB⟩ := hrel
    obtain ⟨wA, rfl⟩ : ∃ wo : World, wo = wr := ⟨_, rfl⟩
    obtain ⟨hn, hn3⟩ : n = (datedL ca mo dy a b Y k).length ∧ n ≤ k := by
      obtain ⟨oa, c2, e⟩ := HS.out.form
      injection e with _ e _
      exact ⟨e, by rw [e]; exact datedL_len _ _ _ _ _ _ _⟩
    have fY := (HB.out.cell (p := ⟨z2, 1, none⟩) HL2.out).trans HF.out.1
    by_cases hk3 : k < 3
    · have c1 := (HB.out.cell (p := ⟨w.heap.size, 1, none⟩) HL1.out).trans HF.out.2.1
      have c2 := (HB.out.cell (p := ⟨w.heap.size, 2, none⟩) HL1.out).trans HF.out.2.2.1
      have c3 := (HB.out.cell (p := ⟨w.heap.size, 3, none⟩) HL1.out).trans HF.out.2.2.2
      have q1 : Y + (k : Int) ≤ Y + 2 := by omega
      have q2 : wrap64 (Y + (k : Int) + 1) = Y + ((k + 1 : Nat) : Int) := by rw [wrap_in (InI.mk (by omega) (by omega))]; push_cast; omega
      have CD := Lib.hid fun w0 h => day_all ca (Y + k) mo dy w0 h
      have HRA := Lib.hid (RomanT.call HRC.out HB.out)
      have HBZ := Lib.hid HB.out.size
      have HD : Hid (datedL ca mo dy a b Y (k + 1) = datedL ca mo dy a b Y k ++ (if dayE ca (Y + k) mo dy = 0 ∧ a ≤ dayR ca (Y + k) mo dy ∧ dayR ca (Y + k) mo dy < b then [dayR ca (Y + k) mo dy] else [])) := Lib.hid rfl
      obtain ⟨r, hr⟩ : ∃ r, dayR ca (Y + k) mo dy = r := ⟨_, rfl⟩
      obtain ⟨x, hx⟩ : ∃ x, dayE ca (Y + k) mo dy = x := ⟨_, rfl⟩
      obtain ⟨D, hD⟩ : ∃ D, datedL ca mo dy a b Y k = D := ⟨_, rfl⟩
      rw [hr, hx] at CD HD
      rw [hD] at HD HS hn
      have HN := Lib.hid hn
      clear hr hx hD hn
      by_cases hx0 : x = 0 ∧ a ≤ r ∧ r < b
      · obtain ⟨rfl, hr1, hr2⟩ := hx0
        have HD2 := Lib.hid (HD.out.trans (by rw [if_pos ⟨rfl, hr1, hr2⟩]))
        rw [errV_nil] at CD
        go_wp2_with (first
          | (go_at_call 93; (with_reducible refine (CD.out _ HRA.out).mono ?_); rintro e w3 ⟨rfl, hb3⟩; have HB3 := Lib.hid (thenB HB.out hb3); have HS3 := Lib.hid (HS.out.call hb3); clear hb3)
          | (at_builtin; refine wpList_append_own _ rfl (.tmp 55) (.tmp 57) 27 rfl wC.heap.size 3 i0 (.int .i64 0) 1 8 Tryz.underlying27 hi0 hz0 hz1 hz2 rfl (by decide) _ n (intV D) rfl ((show World.ownsRow _ _ _ _ _ n _ by have h := HS3.out; unfold IntL at h; rw [← HN.out] at h; exact h).alloc _) _ 1 1 [.int .i64 r] rfl rfl (cells_atI (by simp) _ _) (by simp [Value.oneCell']) (by unfold maxLen; omega) (by omega) (by have h5 := HBZ.out; have h6 := HB3.out.size; have h7 := HL1.out; simp; omega) ?_; intro v4 w4 hown hgrow _))
        obtain ⟨g4, c4, hv4, _, _⟩ := hown.form (by omega)
        subst hv4
        have HB4 := Lib.hid ((HB3.out.alloc (by have h6 := HB3.out.size; omega) _).grown hgrow (by have h6 := HB3.out.size; have h7 := HL1.out; simp; omega) (fun q hq => (HS3.out.lt q hq).1))
        have HS4 : Hid (IntL w4 wC.heap.size (.slice (some ⟨g4, 0, none⟩) (n + 1) c4) (datedL ca mo dy a b Y (k + 1))) := Lib.hid (by unfold IntL; rw [HD2.out, List.length_append, ← HN.out, intV_snoc]; exact hown)
        clear hown hgrow
        go_wp2_with fail
        go_roundw
        case rel => exact ⟨some ⟨g4, 0, none⟩, n + 1, c4, k + 1, rfl, step_eq Y k, by omega, HS4, HB4⟩
        case measure => simp [intOf]; omega
      · have HD2 := Lib.hid (HD.out.trans (by rw [if_neg hx0, List.append_nil]))
        by_cases hx1 : x = 0
        · subst hx1
          rw [errV_nil] at CD
          by_cases ha : a ≤ r
          · have hb' : ¬ r < b := fun h => hx0 ⟨rfl, ha, h⟩
            clear hx0
            go_wp2_with (go_at_call 93; (with_reducible refine (CD.out _ HRA.out).mono ?_); rintro e w3 ⟨rfl, hb3⟩; have HB3 := Lib.hid (thenB HB.out hb3); have HS3 := Lib.hid (HS.out.call hb3); clear hb3)
            go_roundw
            case rel => exact ⟨ob, n, cap, k + 1, rfl, step_eq Y k, by omega, Lib.hid (by rw [HD2.out]; exact HS3.out), HB3⟩
            case measure => simp [intOf]; omega
          · clear hx0
            go_wp2_with (go_at_call 93; (with_reducible refine (CD.out _ HRA.out).mono ?_); rintro e w3 ⟨rfl, hb3⟩; have HB3 := Lib.hid (thenB HB.out hb3); have HS3 := Lib.hid (HS.out.call hb3); clear hb3)
            go_roundw
            case rel => exact ⟨ob, n, cap, k + 1, rfl, step_eq Y k, by omega, Lib.hid (by rw [HD2.out]; exact HS3.out), HB3⟩
            case measure => simp [intOf]; omega
        · rw [errV_hit hx1] at CD
          clear hx0 hx1
          go_wp2_with (go_at_call 93; (with_reducible refine (CD.out _ HRA.out).mono ?_); rintro e w3 ⟨rfl, hb3⟩; have HB3 := Lib.hid (thenB HB.out hb3); have HS3 := Lib.hid (HS.out.call hb3); clear hb3)
          go_roundw
          case rel => exact ⟨ob, n, cap, k + 1, rfl, step_eq Y k, by omega, Lib.hid (by rw [HD2.out]; exact HS3.out), HB3⟩
          case measure => simp [intOf]; omega
    · have hk3' : k = 3 := by omega
      subst hk3'
      have q1 : ¬ Y + 3 ≤ Y + 2 := by omega
      have HN := Lib.hid hn
      clear hn
      go_wp2_with fail
      go_ret
      exact ⟨_, rfl, _, HS.out.low HW.out.size, by rw [← HN.out]; exact hn3, HON2.out, thenB HW.out HB.out⟩
end Go.Proofs.YtbgcccfgcdkmdaaGreatDoor
