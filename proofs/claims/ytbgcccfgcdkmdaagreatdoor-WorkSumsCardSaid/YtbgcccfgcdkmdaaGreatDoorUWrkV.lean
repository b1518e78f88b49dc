/- The document's wouldBe: a date, and the N-th weekday. -/
import Derived.Test.YtbgcccfgcdkmdaaGreatDoorUG4
import Derived.Test.YtbgcccfgcdkmdaaGreatDoorUG5
import Derived.Test.YtbgcccfgcdkmdaaGreatDoorWrkG
import Derived.Test.YtbgcccfgcdkmdaaGreatDoorDaysK
import Derived.Deep.QuietTactic
import Derived.BigQuiet
import Derived.Deep.RegionHeld3
namespace Go.Proofs.YtbgcccfgcdkmdaaGreatDoor
open Go.RowKit Wrk
theorem year_len (y : Int) (h1 : 1 ≤ y) (h2 : y ≤ 9999) : ∃ N : Nat, Dm.yearDays 1 y = (N : Int) ∧ N ≤ 366 ∧ y1 (y + 1) = y1 y + (N : Int) := by
  have hb := y1_bd y h1 (by omega)
  have e : Dm.start 1 (y + 1) = Dm.start 1 y + Dm.yearDays 1 y := by unfold Dm.yearDays; omega
  refine ⟨(Dm.yearDays 1 y).toNat, ?_, ?_, ?_⟩ <;> unfold y1 at * <;> omega
theorem onD_date {x : Hol} {y t yy mm dd : Int} (hk : x.kind = 1) (c1 : 1 ≤ x.cal) (c2 : x.cal ≤ 10) (h1 : y1 y ≤ t) (h2 : t < y1 (y + 1)) (hv : Dm.Valid x.cal yy mm dd) (hd : Dm.dayOf x.cal yy mm dd = t) : OnD x y t ↔ mm = x.month ∧ dd = x.day := by
  unfold OnD
  rw [if_pos hk]
  constructor
  · rintro ⟨-, -, y2, v2, e2⟩
    have := Dm.date_one _ _ _ _ _ _ _ c1 c2 hv v2 (hd.trans e2.symm)
    exact ⟨this.2.1, this.2.2⟩
  · rintro ⟨g1, g2⟩
    rw [g1, g2] at hv hd
    exact ⟨h1, h2, yy, hv, hd⟩
theorem nth_valid {x : Hol} {y k : Int} (h1 : 1 ≤ y) (h2 : y ≤ 9999) (m1 : 1 ≤ x.month) (m2 : x.month ≤ 12) (k1 : 1 ≤ k) (k2 : k ≤ Dm.length 1 y x.month) : Dm.Valid 1 y x.month k := by
  have hm : Dm.months 1 y = 12 := by simp [Dm.months]
  exact ⟨by omega, by omega, m1, by omega, k1, k2⟩
theorem year_here {y t yy mm dd : Int} (h1 : 1 ≤ y) (h2 : y ≤ 9999) (t1 : y1 y ≤ t) (t2 : t < y1 (y + 1)) (hv : Dm.Valid 1 yy mm dd) (hd : Dm.dayOf 1 yy mm dd = t) : yy = y := by
  unfold y1 at t1 t2
  exact year_of (by omega) (by omega) hv (by omega) (by omega) (by omega) (by omega)
theorem onD_nth {x : Hol} {y t yy mm dd : Int} (hk : x.kind = 2) (h1 : 1 ≤ y) (h2 : y ≤ 9999) (m1 : 1 ≤ x.month) (m2 : x.month ≤ 12) (t1 : y1 y ≤ t) (t2 : t < y1 (y + 1)) (hv : Dm.Valid 1 yy mm dd) (hd : Dm.dayOf 1 yy mm dd = t) :
    OnD x y t ↔ mm = x.month ∧ Dm.wd t = x.wday ∧ (x.n = (dd - 1) / 7 + 1 ∨ x.n = -((Dm.length 1 y x.month - dd) / 7) - 1) := by
  have hyy : yy = y := year_here h1 h2 t1 t2 hv hd
  subst hyy
  unfold OnD
  rw [if_neg (by omega), if_pos hk]
  constructor
  · rintro ⟨k, k1, k2, e, hw, hn⟩
    have := Dm.date_one _ _ _ _ _ _ _ (by omega) (by omega) hv (nth_valid h1 h2 m1 m2 k1 k2) (hd.trans e)
    obtain ⟨-, g1, g2⟩ := this
    subst g2
    exact ⟨g1, hw, hn⟩
  · rintro ⟨g1, hw, hn⟩
    rw [g1] at hv hd
    exact ⟨dd, hv.2.2.2.2.1, hv.2.2.2.2.2, hd.symm, hw, hn⟩
theorem onD_in1 {x : Hol} {y t : Int} (hk : x.kind = 1) (h : OnD x y t) : y1 y ≤ t ∧ t < y1 (y + 1) := by
  unfold OnD at h
  rw [if_pos hk] at h
  exact ⟨h.1, h.2.1⟩
theorem onD_in2 {x : Hol} {y t : Int} (hk : x.kind = 2) (h1 : 1 ≤ y) (h2 : y ≤ 9999) (m1 : 1 ≤ x.month) (m2 : x.month ≤ 12) (h : OnD x y t) : y1 y ≤ t ∧ t < y1 (y + 1) := by
  unfold OnD at h
  rw [if_neg (by omega), if_pos hk] at h
  obtain ⟨k, k1, k2, e, -, -⟩ := h
  have := Dm.in_year 1 y x.month k (by omega) (by omega) (nth_valid h1 h2 m1 m2 k1 k2)
  unfold y1
  omega
/-- The members of a list up to a day. -/
def UpD (P : Int → Prop) (z : Int) (acc : List Int) : Prop := ∀ t, t ∈ acc ↔ P t ∧ t < z
theorem UpD.hit {P : Int → Prop} {z z2 : Int} {acc : List Int} (h : UpD P z acc) (hp : P z) (e : z2 = z + 1) : UpD P z2 (acc ++ [z]) := by
  intro t
  rw [List.mem_append, List.mem_singleton, h t]
  constructor
  · rintro (⟨g1, g2⟩ | rfl)
    · exact ⟨g1, by omega⟩
    · exact ⟨hp, by omega⟩
  · rintro ⟨g1, g2⟩
    by_cases g : t = z
    · exact .inr g
    · exact .inl ⟨g1, by omega⟩
theorem UpD.miss {P : Int → Prop} {z z2 : Int} {acc : List Int} (h : UpD P z acc) (hp : ¬ P z) (e : z2 = z + 1) : UpD P z2 acc := by
  intro t
  rw [h t]
  constructor
  · rintro ⟨g1, g2⟩; exact ⟨g1, by omega⟩
  · rintro ⟨g1, g2⟩
    refine ⟨g1, ?_⟩
    by_cases g : t = z
    · subst g; exact absurd g1 hp
    · omega
set_option maxRecDepth 100000 in
set_option maxHeartbeats 16000000 in
theorem would_date (x : Hol) (y : Int) (w : World) (hk : x.kind = 1) (c1 : 1 ≤ x.cal) (c2 : x.cal ≤ 10) (h1 : 1 ≤ y) (h2 : y ≤ 9999) :
    Calls Tryz.prog 40 #[holV x, .int .i64 y] w (WouldPost x y w) := by
  have hyb := y1_bd y h1 (by omega)
  obtain ⟨N, hN, hN366, hNy⟩ := year_len y h1 h2
  have C1 : Hid (∀ w0, Calls Tryz.prog 52 #[.int .i64 1, .int .i64 y] w0 fun e w' => e = .returned (.int .i64 (y1 y)) ∧ Below w0.heap.size w0 w') := Lib.hid fun w0 => YearStart_1 y w0 (by omega) (by omega)
  have C2 : Hid (∀ w0, Calls Tryz.prog 67 #[.int .i64 1, .int .i64 y] w0 fun e w' => e = .returned (.int .i64 (N : Int)) ∧ Below w0.heap.size w0 w') := Lib.hid fun w0 => by rw [← hN]; exact YearDays_any 1 y w0 (by omega) (by omega) (by omega) (by omega)
  have HC : Hid (∀ w0, Calls Tryz.prog 68 #[.int .i64 x.cal, .int .i64 (y1 y), .int .i64 (N : Int)] w0 fun e w' => ∃ v L, e = .returned (.agg #[.int .i64 (y1 y), v]) ∧ DateL w' w0.heap.size x.cal v L ∧ L.length = N ∧ Daily x.cal (y1 y) L ∧ Below w0.heap.size w0 w') := Lib.hid fun w0 => NewDays_any x.cal (y1 y) N w0 c1 c2 (by omega) (by omega) (by omega)
  have HIN : Hid (∀ t, OnD x y t → y1 y ≤ t ∧ t < y1 y + N) := Lib.hid fun t h => by rw [← hNy]; exact onD_in1 hk h
  have HON : Hid (∀ t yy mm dd : Int, y1 y ≤ t → t < y1 y + N → Dm.Valid x.cal yy mm dd → Dm.dayOf x.cal yy mm dd = t → (OnD x y t ↔ mm = x.month ∧ dd = x.day)) := Lib.hid (by
    intro t yy mm dd t1 t2 hv hd
    rw [← hNy] at t2
    exact onD_date hk c1 c2 t1 t2 hv hd)
  obtain ⟨a, ha⟩ : ∃ a, y1 y = a := ⟨_, rfl⟩
  rw [ha] at hyb
  simp only [ha] at C1 HC HIN HON
  clear hN hNy ha
  unfold WouldPost
  obtain ⟨P, hP⟩ : ∃ P : Int → Prop, ∀ t, OnD x y t ↔ P t := ⟨_, fun t => Iff.rfl⟩
  simp only [hP] at HIN HON ⊢
  obtain ⟨ki, ca, mo, dy, nn, wd, of, lo, hi, mvs⟩ := x
  simp only at hk
  subst hk
  unfold holV
  simp only at HC HON c1 c2 ⊢
  obtain ⟨wB, hwB⟩ : ∃ W, w.alloc (.cells #[.int .i64 1, .int .i64 ca, .int .i64 mo, .int .i64 dy, .int .i64 nn, .int .i64 wd, .int .i64 of, .int .i64 lo, .int .i64 hi, .int .i64 mvs] 59) = W := ⟨_, rfl⟩
  have hB : Below w.heap.size w wB := by rw [← hwB]; exact (Below.refl _ _).alloc (Nat.le_refl _) _
  have HB := Lib.hid hB
  have HLT := Lib.hid (show w.heap.size < wB.heap.size by rw [← hwB]; simp)
  have hs : wB.cell? ⟨w.heap.size, 0, none⟩ = some (.int .i64 1) ∧ wB.cell? ⟨w.heap.size, 1, none⟩ = some (.int .i64 ca) ∧ wB.cell? ⟨w.heap.size, 2, none⟩ = some (.int .i64 mo) ∧ wB.cell? ⟨w.heap.size, 3, none⟩ = some (.int .i64 dy) ∧ wB.cell? ⟨w.heap.size, 4, none⟩ = some (.int .i64 nn) ∧ wB.cell? ⟨w.heap.size, 5, none⟩ = some (.int .i64 wd) ∧ wB.cell? ⟨w.heap.size, 6, none⟩ = some (.int .i64 of) ∧ wB.cell? ⟨w.heap.size, 7, none⟩ = some (.int .i64 lo) ∧ wB.cell? ⟨w.heap.size, 8, none⟩ = some (.int .i64 hi) ∧ wB.cell? ⟨w.heap.size, 9, none⟩ = some (.int .i64 mvs) := by rw [← hwB]; simp
  have HS : Hid (∀ w' : World, Below wB.heap.size wB w' → (w'.cell? ⟨w.heap.size, 0, none⟩ = some (.int .i64 1) ∧ w'.cell? ⟨w.heap.size, 1, none⟩ = some (.int .i64 ca) ∧ w'.cell? ⟨w.heap.size, 2, none⟩ = some (.int .i64 mo) ∧ w'.cell? ⟨w.heap.size, 3, none⟩ = some (.int .i64 dy) ∧ w'.cell? ⟨w.heap.size, 4, none⟩ = some (.int .i64 nn) ∧ w'.cell? ⟨w.heap.size, 5, none⟩ = some (.int .i64 wd) ∧ w'.cell? ⟨w.heap.size, 6, none⟩ = some (.int .i64 of) ∧ w'.cell? ⟨w.heap.size, 7, none⟩ = some (.int .i64 lo) ∧ w'.cell? ⟨w.heap.size, 8, none⟩ = some (.int .i64 hi) ∧ w'.cell? ⟨w.heap.size, 9, none⟩ = some (.int .i64 mvs))) := Lib.hid fun w' hb => by
    obtain ⟨s0, s1, s2, s3, s4, s5, s6, s7, s8, s9⟩ := hs
    exact ⟨(hb.cell (p := ⟨w.heap.size, 0, none⟩) HLT.out).trans s0, (hb.cell (p := ⟨w.heap.size, 1, none⟩) HLT.out).trans s1, (hb.cell (p := ⟨w.heap.size, 2, none⟩) HLT.out).trans s2, (hb.cell (p := ⟨w.heap.size, 3, none⟩) HLT.out).trans s3, (hb.cell (p := ⟨w.heap.size, 4, none⟩) HLT.out).trans s4, (hb.cell (p := ⟨w.heap.size, 5, none⟩) HLT.out).trans s5, (hb.cell (p := ⟨w.heap.size, 6, none⟩) HLT.out).trans s6, (hb.cell (p := ⟨w.heap.size, 7, none⟩) HLT.out).trans s7, (hb.cell (p := ⟨w.heap.size, 8, none⟩) HLT.out).trans s8, (hb.cell (p := ⟨w.heap.size, 9, none⟩) HLT.out).trans s9⟩
  obtain ⟨s0, s1, s2, s3, s4, s5, s6, s7, s8, s9⟩ := hs
  clear hB hP
  obtain ⟨i0, hi0, hz0, hz1, hz2⟩ := info_parts Tryz.info3
  go_enter Tryz.func40, Tryz.ntmps40
  go_upto_region 7 with (first
    | (go_at_call 52; (with_reducible refine (C1.out _).mono ?_); rintro e w2 ⟨rfl, hb2⟩; have HB2 := Lib.hid hb2; clear hb2)
    | (go_at_call 67; (with_reducible refine (C2.out _).mono ?_); rintro e w3 ⟨rfl, hb3⟩; have HB3 := Lib.hid (thenB HB2.out hb3); clear hb3))
  clear s0 s1 s2 s3 s4 s5 s6 s7 s8 s9 hwB
  obtain ⟨s0, s1, s2, s3, s4, s5, s6, s7, s8, s9⟩ := HS.out _ HB3.out
  go_upto_region 11 with (go_at_call 68; (with_reducible refine (HC.out _).mono ?_); rintro e w4 ⟨v, L, rfl, hL, hLn, hDy, hb4⟩; obtain ⟨od, cd, hvf⟩ := hL.form; rw [hLn] at hvf; subst hvf; have HL := Lib.hid hL; have HLN := Lib.hid hLn; have HDY := Lib.hid hDy; have HB4 := Lib.hid (thenB HB3.out hb4); clear hL hLn hDy hb4)
  clear s0 s1 s2 s3 s4 s5 s6 s7 s8 s9
  obtain ⟨z10, hz10⟩ : ∃ z, w4.heap.size = z := ⟨_, rfl⟩
  obtain ⟨wX, hwX⟩ : ∃ W, w4.alloc (.cells #[.int .i64 a, .slice od N cd] 114) = W := ⟨_, rfl⟩
  have hX : Below w4.heap.size w4 wX := by rw [← hwX]; exact (Below.refl _ _).alloc (Nat.le_refl _) _
  have HBX := Lib.hid (thenB HB4.out hX)
  have HLX := Lib.hid (HL.out.call hX)
  have HZX := Lib.hid (show wX.heap.size = z10 + 1 by rw [← hwX, ← hz10]; simp)
  have HV10 := Lib.hid (show wX.cell? ⟨z10, 1, none⟩ = some (.slice od N cd) by rw [← hwX, ← hz10]; simp)
  rw [hwX, hz10]
  clear hX hwX hz10
  go_wp2_with fail
  go_loopw [11, 12] (fun v c wr => ∃ (ob : Option Addr) (n cap i : Nat), v = .slice ob n cap ∧ c = .int .i64 (i : Int) ∧ i ≤ N ∧ n ≤ i ∧ Hid (∃ acc, IntL wr wX.heap.size (.slice ob n cap) acc ∧ UpD P (a + i) acc) ∧ Hid (Below wX.heap.size wX wr)) (fun _ c _ => N - (intOf c).toNat)
  case atStart => exact ⟨none, 0, 0, 0, rfl, by simp, by omega, by omega, Lib.hid ⟨[], IntL.nil _ _, fun t => by simp; intro h; have := HIN.out t h; omega⟩, Lib.hid (Below.refl _ _)⟩
  case round =>
    obtain ⟨ob, n, cap, i, rfl, rfl, hi, hn, HA, HB5⟩ := hrel
    obtain ⟨wo, hwo⟩ : ∃ wo : World, wo = wr := ⟨_, rfl⟩
    subst hwo
    by_cases hik : i < N
    · obtain ⟨g, rfl, -, hgl, c0, c1', c2', c3⟩ := (HLX.out.call HB5.out).at (k := i) (by rw [HLN.out]; exact hik)
      have hdd := HDY.out i (by rw [HLN.out]; exact hik)
      have HPP := Lib.hid (HON.out (a + i) _ _ _ (by omega) (by omega) hdd.1 hdd.2)
      skip
      obtain ⟨⟨yy, mm, dd⟩, hp⟩ : ∃ p, L.getD i (0, 0, 0) = p := ⟨_, rfl⟩
      rw [hp] at c1' c2' c3 HPP
      simp only at c1' c2' c3 HPP
      have k1 : (0 : Int) ≤ (i : Int) := by omega
      have k2 : (i : Int) < (N : Int) := by omega
      have v10 := (HB5.out.cell (p := ⟨z10, 1, none⟩) (by rw [HZX.out]; exact Nat.lt_succ_self _)).trans HV10.out
      obtain ⟨s0, s1, s2, s3, s4, s5, s6, s7, s8, s9⟩ := HS.out _ (thenB HBX.out HB5.out)
      clear hdd hp hgl
      obtain ⟨z13, hz13⟩ : ∃ z, wo.heap.size = z := ⟨_, rfl⟩
      go_upto_region 16 with fail
      obtain ⟨wA, hwA⟩ : ∃ W, wo.alloc (.cells #[.int .i64 ca, .int .i64 yy, .int .i64 mm, .int .i64 dd] 89) = W := ⟨_, rfl⟩
      have hA : Below wo.heap.size wo wA := by rw [← hwA]; exact (Below.refl _ _).alloc (Nat.le_refl _) _
      have HWA := Lib.hid (thenB HB5.out hA)
      have HZA := Lib.hid (show wA.heap.size = z13 + 1 by rw [← hwA, ← hz13]; simp)
      have a2 : wA.cell? ⟨z13, 2, none⟩ = some (.int .i64 mm) := by rw [← hwA, ← hz13]; simp
      have a3 : wA.cell? ⟨z13, 3, none⟩ = some (.int .i64 dd) := by rw [← hwA, ← hz13]; simp
      obtain ⟨acc, hacc, hup⟩ := HA.out
      have HACC := Lib.hid (hacc.call hA)
      have HUP := Lib.hid hup
      have hnl : acc.length = n := by
        obtain ⟨oa, c2, e⟩ := hacc.form
        injection e with _ e _
        exact e.symm
      have HNL := Lib.hid hnl
      rw [hwA]
      clear hA hwA c0 c1' c2' c3 v10 s0 s1 s2 s3 s4 s5 s6 s7 s8 s9 hacc hup hnl
      obtain ⟨s0, s1, s2, s3, s4, s5, s6, s7, s8, s9⟩ := HS.out _ (thenB HBX.out HWA.out)
      have hw1 : wrap64 (a + i) = a + i := wrap_in (InI.mk (by omega) (by omega))
      have hw2 : IntKind.i64.wrap (a + (i : Int)) = a + i := IntWalk.i64_in _ (by omega)
      clear hz13
      have HMISS : Hid (¬ P (a + i) → ∀ nq, (∃ acc, IntL (wA.drewN nq) wX.heap.size (.slice ob n cap) acc ∧ UpD P (a + ((i + 1 : Nat) : Int)) acc) ∧ Below wX.heap.size wX (wA.drewN nq)) := Lib.hid fun h nq => ⟨⟨acc, HACC.out.call (belowN (Below.refl _ _) nq), HUP.out.miss h (by omega)⟩, belowN HWA.out nq⟩
      by_cases hm : mm = mo
      · by_cases hd : dd = dy
        · have bm : (mm == mo) = true := by simpa using hm
          have bd : (dd == dy) = true := by simpa using hd
          have HP1 := Lib.hid (HPP.out.2 ⟨hm, hd⟩)
          clear hm hd
          go_upto_region 18 with (at_builtin; refine wpList_append_lies _ rfl (.tmp 78) (.tmp 82) 27 rfl wX.heap.size 3 i0 (.int .i64 0) 1 8 Tryz.underlying27 hi0 hz0 hz1 hz2 rfl (by decide) _ n (intV acc) rfl ((show World.ownsRow _ _ _ _ _ n _ by have h := HACC.out; unfold IntL at h; rw [HNL.out] at h; exact h).alloc _) _ 1 1 [.int .i64 (a + i)] rfl rfl (cells_atI (by simp) _ _) (by simp [Value.oneCell']) (by decide) (by unfold maxLen; omega) (by omega) (by have h5 := HWA.out.size; simp; omega) (wA.heap.size + 1) (by simp) ?_; intro g5 c5 w5 hown hgrow hat hlt5)
          have HB6 := Lib.hid ((HWA.out.alloc HWA.out.size _).grown hgrow (by have h5 := HWA.out.size; simp; omega) (fun q hq => (HACC.out.lt q hq).1))
          have HS6 : Hid (IntL w5 wX.heap.size (.slice (some ⟨g5, 0, none⟩) (n + 1) c5) (acc ++ [a + (i : Int)])) := Lib.hid (by
            unfold IntL
            rw [List.length_append, HNL.out, intV_snoc]
            exact hown)
          have HEND : Hid (∀ nq, (∃ acc2, IntL (w5.drewN nq) wX.heap.size (.slice (some ⟨g5, 0, none⟩) (n + 1) c5) acc2 ∧ UpD P (a + ((i + 1 : Nat) : Int)) acc2) ∧ Below wX.heap.size wX (w5.drewN nq)) := Lib.hid fun nq => ⟨⟨_, HS6.out.call (belowN (Below.refl _ _) nq), HUP.out.hit HP1.out (by omega)⟩, belowN HB6.out nq⟩
          have HSR : Hid (w5.cell? ⟨w.heap.size, 0, none⟩ = some (.int .i64 1)) := Lib.hid (HS.out _ (thenB HBX.out HB6.out)).1
          clear hown hgrow hat hlt5 s0 s1 s2 s3 s4 s5 s6 s7 s8 s9
          have s0 := HSR.out
          go_quiet (fail)
          go_wp2_with fail
          go_roundw
          case rel => exact ⟨some ⟨g5, 0, none⟩, n + 1, c5, i + 1, rfl, by go_num, by omega, by omega, Lib.hid (HEND.out _).1, Lib.hid (HEND.out _).2⟩
          case measure => simp [intOf]; omega
        · have bm : (mm == mo) = true := by simpa using hm
          have bd : (dd == dy) = false := by simpa using hd
          have HM2 := Lib.hid (HMISS.out fun h => hd (HPP.out.1 h).2)
          clear hm hd
          go_upto_region 18 with fail
          go_quiet (fail)
          go_wp2_with fail
          go_roundw
          case rel => exact ⟨ob, n, cap, i + 1, rfl, by go_num, by omega, by omega, Lib.hid (HM2.out _).1, Lib.hid (HM2.out _).2⟩
          case measure => simp [intOf]; omega
      · have bm : (mm == mo) = false := by simpa using hm
        have HM2 := Lib.hid (HMISS.out fun h => hm (HPP.out.1 h).1)
        clear hm
        go_upto_region 18 with fail
        go_quiet (fail)
        go_wp2_with fail
        go_roundw
        case rel => exact ⟨ob, n, cap, i + 1, rfl, by go_num, by omega, by omega, Lib.hid (HM2.out _).1, Lib.hid (HM2.out _).2⟩
        case measure => simp [intOf]; omega
    · have e : i = N := by omega
      subst e
      obtain ⟨acc, g1, g2⟩ := HA.out
      have hnl : acc.length = n := by
        obtain ⟨oa, c2, e⟩ := g1.form
        injection e with _ e _
        exact e.symm
      have HG : Hid (IntL wo w.heap.size (.slice ob n cap) acc ∧ acc.length ≤ 366 ∧ (∀ t, t ∈ acc ↔ P t) ∧ Below w.heap.size w wo) := Lib.hid ⟨g1.low (Nat.le_trans HB.out.size HBX.out.size), by omega, fun t => (g2 t).trans ⟨fun h => h.1, fun h => ⟨h, (HIN.out t h).2⟩⟩, thenB HB.out (thenB HBX.out HB5.out)⟩
      clear g1 g2 hnl
      go_wp2_with fail
      go_ret
      first | exact ⟨_, acc, rfl, HG.out⟩ | exact ⟨_, rfl, acc, HG.out⟩
set_option maxRecDepth 100000 in
set_option maxHeartbeats 16000000 in
theorem would_nth (x : Hol) (y : Int) (w : World) (hk : x.kind = 2) (m1 : 1 ≤ x.month) (m2 : x.month ≤ 12) (h1 : 1 ≤ y) (h2 : y ≤ 9999) :
    Calls Tryz.prog 40 #[holV x, .int .i64 y] w (WouldPost x y w) := by
  have hyb := y1_bd y h1 (by omega)
  obtain ⟨N, hN, hN366, hNy⟩ := year_len y h1 h2
  have C1 : Hid (∀ w0, Calls Tryz.prog 52 #[.int .i64 1, .int .i64 y] w0 fun e w' => e = .returned (.int .i64 (y1 y)) ∧ Below w0.heap.size w0 w') := Lib.hid fun w0 => YearStart_1 y w0 (by omega) (by omega)
  have C2 : Hid (∀ w0, Calls Tryz.prog 67 #[.int .i64 1, .int .i64 y] w0 fun e w' => e = .returned (.int .i64 (N : Int)) ∧ Below w0.heap.size w0 w') := Lib.hid fun w0 => by rw [← hN]; exact YearDays_any 1 y w0 (by omega) (by omega) (by omega) (by omega)
  have HC : Hid (∀ w0, Calls Tryz.prog 68 #[.int .i64 1, .int .i64 (y1 y), .int .i64 (N : Int)] w0 fun e w' => ∃ v L, e = .returned (.agg #[.int .i64 (y1 y), v]) ∧ DateL w' w0.heap.size 1 v L ∧ L.length = N ∧ Daily 1 (y1 y) L ∧ Below w0.heap.size w0 w') := Lib.hid fun w0 => NewDays_any 1 (y1 y) N w0 (by omega) (by omega) (by omega) (by omega) (by omega)
  have HYY : Hid (∀ t yy mm dd : Int, y1 y ≤ t → t < y1 y + N → Dm.Valid 1 yy mm dd → Dm.dayOf 1 yy mm dd = t → yy = y) := Lib.hid (by
    intro t yy mm dd t1 t2 hv hd
    rw [← hNy] at t2
    exact year_here h1 h2 t1 t2 hv hd)
  have HIN : Hid (∀ t, OnD x y t → y1 y ≤ t ∧ t < y1 y + N) := Lib.hid fun t h => by rw [← hNy]; exact onD_in2 hk h1 h2 m1 m2 h
  have HON : Hid (∀ t yy mm dd : Int, y1 y ≤ t → t < y1 y + N → Dm.Valid 1 yy mm dd → Dm.dayOf 1 yy mm dd = t → (OnD x y t ↔ mm = x.month ∧ Dm.wd t = x.wday ∧ (x.n = (dd - 1) / 7 + 1 ∨ x.n = -((Dm.length 1 y x.month - dd) / 7) - 1))) := Lib.hid (by
    intro t yy mm dd t1 t2 hv hd
    rw [← hNy] at t2
    exact onD_nth hk h1 h2 m1 m2 t1 t2 hv hd)
  obtain ⟨a, ha⟩ : ∃ a, y1 y = a := ⟨_, rfl⟩
  rw [ha] at hyb
  simp only [ha] at C1 HC HIN HON HYY
  clear hN hNy ha
  unfold WouldPost
  have CL : Hid (∀ w0, Calls Tryz.prog 69 #[.int .i64 1, .int .i64 y] w0 (LensPost 1 y w0)) := Lib.hid fun w0 => Lengths_any 1 y w0 (by omega) (by omega) (by omega) (by omega)
  have CW : Hid (∀ n w0, Calls Tryz.prog 54 #[.int .i64 n] w0 fun e w' => e = .returned (.int .i64 (Dm.wd n)) ∧ w0 = w') := Lib.hid fun n w0 => refWeekday_any n w0
  have hml := month_facts y x.month h1 h2 m1 m2
  obtain ⟨P, hP⟩ : ∃ P : Int → Prop, ∀ t, OnD x y t ↔ P t := ⟨_, fun t => Iff.rfl⟩
  simp only [hP] at HIN HON ⊢
  obtain ⟨ki, ca, mo, dy, nn, wd, of, lo, hi, mvs⟩ := x
  simp only at hk
  subst hk
  unfold holV
  simp only at HC HON m1 m2 hml ⊢
  obtain ⟨wB, hwB⟩ : ∃ W, w.alloc (.cells #[.int .i64 2, .int .i64 ca, .int .i64 mo, .int .i64 dy, .int .i64 nn, .int .i64 wd, .int .i64 of, .int .i64 lo, .int .i64 hi, .int .i64 mvs] 59) = W := ⟨_, rfl⟩
  have hB : Below w.heap.size w wB := by rw [← hwB]; exact (Below.refl _ _).alloc (Nat.le_refl _) _
  have HB := Lib.hid hB
  have HLT := Lib.hid (show w.heap.size < wB.heap.size by rw [← hwB]; simp)
  have hs : wB.cell? ⟨w.heap.size, 0, none⟩ = some (.int .i64 2) ∧ wB.cell? ⟨w.heap.size, 1, none⟩ = some (.int .i64 ca) ∧ wB.cell? ⟨w.heap.size, 2, none⟩ = some (.int .i64 mo) ∧ wB.cell? ⟨w.heap.size, 3, none⟩ = some (.int .i64 dy) ∧ wB.cell? ⟨w.heap.size, 4, none⟩ = some (.int .i64 nn) ∧ wB.cell? ⟨w.heap.size, 5, none⟩ = some (.int .i64 wd) ∧ wB.cell? ⟨w.heap.size, 6, none⟩ = some (.int .i64 of) ∧ wB.cell? ⟨w.heap.size, 7, none⟩ = some (.int .i64 lo) ∧ wB.cell? ⟨w.heap.size, 8, none⟩ = some (.int .i64 hi) ∧ wB.cell? ⟨w.heap.size, 9, none⟩ = some (.int .i64 mvs) := by rw [← hwB]; simp
  have HS : Hid (∀ w' : World, Below wB.heap.size wB w' → (w'.cell? ⟨w.heap.size, 0, none⟩ = some (.int .i64 2) ∧ w'.cell? ⟨w.heap.size, 1, none⟩ = some (.int .i64 ca) ∧ w'.cell? ⟨w.heap.size, 2, none⟩ = some (.int .i64 mo) ∧ w'.cell? ⟨w.heap.size, 3, none⟩ = some (.int .i64 dy) ∧ w'.cell? ⟨w.heap.size, 4, none⟩ = some (.int .i64 nn) ∧ w'.cell? ⟨w.heap.size, 5, none⟩ = some (.int .i64 wd) ∧ w'.cell? ⟨w.heap.size, 6, none⟩ = some (.int .i64 of) ∧ w'.cell? ⟨w.heap.size, 7, none⟩ = some (.int .i64 lo) ∧ w'.cell? ⟨w.heap.size, 8, none⟩ = some (.int .i64 hi) ∧ w'.cell? ⟨w.heap.size, 9, none⟩ = some (.int .i64 mvs))) := Lib.hid fun w' hb => by
    obtain ⟨s0, s1, s2, s3, s4, s5, s6, s7, s8, s9⟩ := hs
    exact ⟨(hb.cell (p := ⟨w.heap.size, 0, none⟩) HLT.out).trans s0, (hb.cell (p := ⟨w.heap.size, 1, none⟩) HLT.out).trans s1, (hb.cell (p := ⟨w.heap.size, 2, none⟩) HLT.out).trans s2, (hb.cell (p := ⟨w.heap.size, 3, none⟩) HLT.out).trans s3, (hb.cell (p := ⟨w.heap.size, 4, none⟩) HLT.out).trans s4, (hb.cell (p := ⟨w.heap.size, 5, none⟩) HLT.out).trans s5, (hb.cell (p := ⟨w.heap.size, 6, none⟩) HLT.out).trans s6, (hb.cell (p := ⟨w.heap.size, 7, none⟩) HLT.out).trans s7, (hb.cell (p := ⟨w.heap.size, 8, none⟩) HLT.out).trans s8, (hb.cell (p := ⟨w.heap.size, 9, none⟩) HLT.out).trans s9⟩
  obtain ⟨s0, s1, s2, s3, s4, s5, s6, s7, s8, s9⟩ := hs
  clear hB hP
  obtain ⟨i0, hi0, hz0, hz1, hz2⟩ := info_parts Tryz.info3
  go_enter Tryz.func40, Tryz.ntmps40
  go_upto_region 7 with (first
    | (go_at_call 52; (with_reducible refine (C1.out _).mono ?_); rintro e w2 ⟨rfl, hb2⟩; have HB2 := Lib.hid hb2; clear hb2)
    | (go_at_call 67; (with_reducible refine (C2.out _).mono ?_); rintro e w3 ⟨rfl, hb3⟩; have HB3 := Lib.hid (thenB HB2.out hb3); clear hb3))
  clear s0 s1 s2 s3 s4 s5 s6 s7 s8 s9 hwB
  obtain ⟨s0, s1, s2, s3, s4, s5, s6, s7, s8, s9⟩ := HS.out _ HB3.out
  go_upto_region 11 with (go_at_call 68; (with_reducible refine (HC.out _).mono ?_); rintro e w4 ⟨v, L, rfl, hL, hLn, hDy, hb4⟩; obtain ⟨od, cd, hvf⟩ := hL.form; rw [hLn] at hvf; subst hvf; have HL := Lib.hid hL; have HLN := Lib.hid hLn; have HDY := Lib.hid hDy; have HB4 := Lib.hid (thenB HB3.out hb4); clear hL hLn hDy hb4)
  clear s0 s1 s2 s3 s4 s5 s6 s7 s8 s9
  obtain ⟨z10, hz10⟩ : ∃ z, w4.heap.size = z := ⟨_, rfl⟩
  obtain ⟨wX, hwX⟩ : ∃ W, w4.alloc (.cells #[.int .i64 a, .slice od N cd] 114) = W := ⟨_, rfl⟩
  have hX : Below w4.heap.size w4 wX := by rw [← hwX]; exact (Below.refl _ _).alloc (Nat.le_refl _) _
  have HBX := Lib.hid (thenB HB4.out hX)
  have HLX := Lib.hid (HL.out.call hX)
  have HZX := Lib.hid (show wX.heap.size = z10 + 1 by rw [← hwX, ← hz10]; simp)
  have HV10 := Lib.hid (show wX.cell? ⟨z10, 1, none⟩ = some (.slice od N cd) by rw [← hwX, ← hz10]; simp)
  rw [hwX, hz10]
  clear hX hwX hz10
  go_wp2_with fail
  go_loopw [11, 12] (fun v c wr => ∃ (ob : Option Addr) (n cap i : Nat), v = .slice ob n cap ∧ c = .int .i64 (i : Int) ∧ i ≤ N ∧ n ≤ i ∧ Hid (∃ acc, IntL wr wX.heap.size (.slice ob n cap) acc ∧ UpD P (a + i) acc) ∧ Hid (Below wX.heap.size wX wr)) (fun _ c _ => N - (intOf c).toNat)
  case atStart => exact ⟨none, 0, 0, 0, rfl, by simp, by omega, by omega, Lib.hid ⟨[], IntL.nil _ _, fun t => by simp; intro h; have := HIN.out t h; omega⟩, Lib.hid (Below.refl _ _)⟩
  case round =>
    obtain ⟨ob, n, cap, i, rfl, rfl, hi, hn, HA, HB5⟩ := hrel
    obtain ⟨wo, hwo⟩ : ∃ wo : World, wo = wr := ⟨_, rfl⟩
    subst hwo
    by_cases hik : i < N
    · obtain ⟨g, rfl, -, hgl, c0, c1', c2', c3⟩ := (HLX.out.call HB5.out).at (k := i) (by rw [HLN.out]; exact hik)
      have hdd := HDY.out i (by rw [HLN.out]; exact hik)
      have HPP := Lib.hid (HON.out (a + i) _ _ _ (by omega) (by omega) hdd.1 hdd.2)
      have hyy := HYY.out (a + i) _ _ _ (by omega) (by omega) hdd.1 hdd.2
      have HDV := Lib.hid (And.intro hdd.1.2.2.2.2.1 hdd.1.2.2.2.2.2)
      rw [hyy] at HDV
      clear hyy
      obtain ⟨⟨yy, mm, dd⟩, hp⟩ : ∃ p, L.getD i (0, 0, 0) = p := ⟨_, rfl⟩
      rw [hp] at c1' c2' c3 HPP HDV
      simp only at c1' c2' c3 HPP HDV
      have k1 : (0 : Int) ≤ (i : Int) := by omega
      have k2 : (i : Int) < (N : Int) := by omega
      have v10 := (HB5.out.cell (p := ⟨z10, 1, none⟩) (by rw [HZX.out]; exact Nat.lt_succ_self _)).trans HV10.out
      obtain ⟨s0, s1, s2, s3, s4, s5, s6, s7, s8, s9⟩ := HS.out _ (thenB HBX.out HB5.out)
      clear hdd hp hgl
      obtain ⟨z13, hz13⟩ : ∃ z, wo.heap.size = z := ⟨_, rfl⟩
      go_upto_region 16 with fail
      obtain ⟨wA, hwA⟩ : ∃ W, wo.alloc (.cells #[.int .i64 1, .int .i64 yy, .int .i64 mm, .int .i64 dd] 89) = W := ⟨_, rfl⟩
      have hA : Below wo.heap.size wo wA := by rw [← hwA]; exact (Below.refl _ _).alloc (Nat.le_refl _) _
      have HWA := Lib.hid (thenB HB5.out hA)
      have HZA := Lib.hid (show wA.heap.size = z13 + 1 by rw [← hwA, ← hz13]; simp)
      have a2 : wA.cell? ⟨z13, 2, none⟩ = some (.int .i64 mm) := by rw [← hwA, ← hz13]; simp
      have a3 : wA.cell? ⟨z13, 3, none⟩ = some (.int .i64 dd) := by rw [← hwA, ← hz13]; simp
      obtain ⟨acc, hacc, hup⟩ := HA.out
      have HACC := Lib.hid (hacc.call hA)
      have HUP := Lib.hid hup
      have hnl : acc.length = n := by
        obtain ⟨oa, c2, e⟩ := hacc.form
        injection e with _ e _
        exact e.symm
      have HNL := Lib.hid hnl
      rw [hwA]
      clear hA hwA c0 c1' c2' c3 v10 s0 s1 s2 s3 s4 s5 s6 s7 s8 s9 hacc hup hnl
      obtain ⟨s0, s1, s2, s3, s4, s5, s6, s7, s8, s9⟩ := HS.out _ (thenB HBX.out HWA.out)
      have hw1 : wrap64 (a + i) = a + i := wrap_in (InI.mk (by omega) (by omega))
      have hw2 : IntKind.i64.wrap (a + (i : Int)) = a + i := IntWalk.i64_in _ (by omega)
      clear hz13
      have CWq : Hid (∀ m (w0 : World), Calls Tryz.prog 54 #[.int .i64 (a + i)] (w0.drewN m) fun e w' => e = .returned (.int .i64 (Dm.wd (a + i))) ∧ w' = w0.drewN m) := Lib.hid fun m w0 => (CW.out (a + i) _).mono fun e w' ⟨h1, h2⟩ => ⟨h1, h2.symm⟩
      obtain ⟨U, hU⟩ : ∃ U, Dm.wd (a + i) = U := ⟨_, rfl⟩
      rw [hU] at CWq HPP
      clear hU
      have HMISS : Hid (¬ P (a + i) → ∀ nq, (∃ acc, IntL (wA.drewN nq) wX.heap.size (.slice ob n cap) acc ∧ UpD P (a + ((i + 1 : Nat) : Int)) acc) ∧ Below wX.heap.size wX (wA.drewN nq)) := Lib.hid fun h nq => ⟨⟨acc, HACC.out.call (belowN (Below.refl _ _) nq), HUP.out.miss h (by omega)⟩, belowN HWA.out nq⟩
      by_cases hm : mm = mo
      · by_cases hd : U = wd
        · have bm : (mm == mo) = true := by simpa using hm
          have bd : (U == wd) = true := by simpa using hd
          obtain ⟨le, hle⟩ : ∃ le, Dm.length 1 y mo = le := ⟨_, rfl⟩
          have hdv2 : 1 ≤ dd ∧ dd ≤ le := by
            have h := HDV.out
            rw [hm, hle] at h
            exact h
          have HPP2 : Hid (P (a + i) ↔ (nn = (dd - 1) / 7 + 1 ∨ nn = -((le - dd) / 7) - 1)) := Lib.hid (HPP.out.trans ⟨fun h => by rw [← hle]; exact h.2.2, fun h => ⟨hm, hd, by rw [hle]; exact h⟩⟩)
          have hleb : 28 ≤ le ∧ le ≤ 31 := by rw [← hle]; exact ⟨hml.2.1, hml.2.2.1⟩
          have hM12 := hml.2.2.2.2.2
          have HLE := Lib.hid hle
          subst hm
          clear hd hle
          go_upto_region 18 with fail
          go_quiet ((go_at_call 54; exact Calls.quiet_of_same (CWq.out _ _)))
          have HBD := Lib.hid (belowN HWA.out nq)
          have HAD : Hid (IntL (wA.drewN nq) wX.heap.size (.slice ob n cap) acc) := Lib.hid (HACC.out.call (belowN (Below.refl _ _) nq))
          have HSD : Hid (∀ w' : World, Below (wA.drewN nq).heap.size (wA.drewN nq) w' → w'.cell? ⟨z13, 2, none⟩ = some (.int .i64 mm) ∧ w'.cell? ⟨z13, 3, none⟩ = some (.int .i64 dd) ∧ w'.cell? ⟨w.heap.size, 4, none⟩ = some (.int .i64 nn)) := Lib.hid (by
            have e2 : (wA.drewN nq).cell? ⟨z13, 2, none⟩ = some (.int .i64 mm) := by simpa using a2
            have e3 : (wA.drewN nq).cell? ⟨z13, 3, none⟩ = some (.int .i64 dd) := by simpa using a3
            have hz : z13 < (wA.drewN nq).heap.size := by simp; rw [HZA.out]; exact Nat.lt_succ_self _
            exact fun w' hb => ⟨(hb.cell (p := ⟨z13, 2, none⟩) hz).trans e2, (hb.cell (p := ⟨z13, 3, none⟩) hz).trans e3, (HS.out _ (thenB (thenB HBX.out HBD.out) hb)).2.2.2.2.1⟩)
          obtain ⟨wD, hwD⟩ : ∃ W, wA.drewN nq = W := ⟨_, rfl⟩
          rw [hwD] at HBD HAD HSD ⊢
          clear hwD a2 a3 s0 s1 s2 s3 s4 s5 s6 s7 s8 s9 bm bd
          have b1 : IntKind.i64.wrap (mm - 1) = mm - 1 := IntWalk.i64_in _ (by omega)
          have b2 : 0 ≤ mm - 1 := by omega
          have b3 : mm - 1 < 12 := by omega
          have b4 : 1 ≤ mm := by omega
          have b6 : mm.toNat - 1 < 12 := by omega
          have b7 : (mm - 1).toNat < 12 := by omega
          go_upto_region 19 with fail
          have k2c := (HSD.out _ (Below.refl _ _)).1
          go_cut [14] from 103 to 110 (fun v wx => v = .int .i64 le ∧ Hid (Below wD.heap.size wD wx))
          case first =>
            go_region_with (go_at_call 69; refine (CL.out _).mono ?_; rintro e w8 ⟨B8, n8, cap8, rfl, hn8, hB1, hB2, hlen8, hb8⟩; obtain rfl : n8 = 12 := (by omega); have lc : w8.cell? ⟨B8, mm.toNat - 1, none⟩ = some (.int .i64 le) := (by rw [hlen8 (mm.toNat - 1) (by omega), show ((mm.toNat - 1 : Nat) : Int) + 1 = mm by omega, HLE.out]); have r2 := (HSD.out _ (offD hb8)).1; have HX := Lib.hid (offD hb8); clear hn8 hB1 hB2 hlen8 hb8)
            all_goals go_wp2_with fail
            all_goals go_meet
            all_goals first | exact ⟨rfl, HX⟩ | exact ⟨rfl, Lib.hid (Below.drew HX.out)⟩
          case rest =>
            obtain ⟨rfl, HX⟩ := hcut
            obtain ⟨q2, q3, q4⟩ := HSD.out _ HX.out
            have HBE := Lib.hid (thenB HBD.out HX.out)
            have HAE : Hid (IntL wc wX.heap.size (.slice ob n cap) acc) := Lib.hid (HAD.out.call HX.out)
            obtain ⟨Q1, hQ1⟩ : ∃ Q1, (dd - 1) / 7 = Q1 := ⟨_, rfl⟩
            obtain ⟨Q2, hQ2⟩ : ∃ Q2, (le - dd) / 7 = Q2 := ⟨_, rfl⟩
            have hqb : 0 ≤ Q1 ∧ Q1 ≤ 5 ∧ 0 ≤ Q2 ∧ Q2 ≤ 5 := by omega
            rw [hQ1, hQ2] at HPP2
            have d1 : wrap64 (dd - 1) = dd - 1 := wrap_in (InI.mk (by omega) (by omega))
            have d2 : (dd - 1).tdiv 7 = Q1 := by rw [Int.tdiv_eq_ediv_of_nonneg (by omega), hQ1]
            have d3 : wrap64 Q1 = Q1 := wrap_in (InI.mk (by omega) (by omega))
            have d4 : wrap64 (Q1 + 1) = Q1 + 1 := wrap_in (InI.mk (by omega) (by omega))
            have d5 : wrap64 (le - dd) = le - dd := wrap_in (InI.mk (by omega) (by omega))
            have d7 : (le - dd).tdiv 7 = Q2 := by rw [Int.tdiv_eq_ediv_of_nonneg (by omega), hQ2]
            have d8 : wrap64 (-Q2) = -Q2 := wrap_in (InI.mk (by omega) (by omega))
            have d9 : wrap64 (-Q2 - 1) = -Q2 - 1 := wrap_in (InI.mk (by omega) (by omega))
            clear hQ1 hQ2
            rcases (show nn = Q1 + 1 ∨ (nn ≠ Q1 + 1 ∧ nn = -Q2 - 1) ∨ (nn ≠ Q1 + 1 ∧ nn ≠ -Q2 - 1) by omega) with g | ⟨g1, g2⟩ | ⟨g1, g2⟩
            · have t1 : (nn == Q1 + 1) = true := by simpa using g
              have HP1 := Lib.hid (HPP2.out.2 (.inl g))
              clear g
              go_wp2_with (at_builtin; refine wpList_append_lies _ rfl (.tmp 131) (.tmp 135) 27 rfl wX.heap.size 3 i0 (.int .i64 0) 1 8 Tryz.underlying27 hi0 hz0 hz1 hz2 rfl (by decide) _ n (intV acc) rfl ((show World.ownsRow _ _ _ _ _ n _ by have h := HAE.out; unfold IntL at h; rw [HNL.out] at h; exact h).alloc _) _ 1 1 [.int .i64 (a + i)] rfl rfl (cells_atI (by simp) _ _) (by simp [Value.oneCell']) (by decide) (by unfold maxLen; omega) (by omega) (by have h5 := HBE.out.size; simp; omega) (wc.heap.size + 1) (by simp) ?_; intro g5 c5 w5 hown hgrow hat hlt5)
              have HB6 := Lib.hid ((HBE.out.alloc HBE.out.size _).grown hgrow (by have h5 := HBE.out.size; simp; omega) (fun q hq => (HAE.out.lt q hq).1))
              have HS6 : Hid (IntL w5 wX.heap.size (.slice (some ⟨g5, 0, none⟩) (n + 1) c5) (acc ++ [a + (i : Int)])) := Lib.hid (by
                unfold IntL
                rw [List.length_append, HNL.out, intV_snoc]
                exact hown)
              have HU6 := Lib.hid (HUP.out.hit HP1.out (show a + ((i + 1 : Nat) : Int) = a + i + 1 by omega))
              clear hown hgrow hat hlt5
              go_roundw
              case rel => exact ⟨some ⟨g5, 0, none⟩, n + 1, c5, i + 1, rfl, by go_num, by omega, by omega, Lib.hid ⟨_, HS6.out, HU6.out⟩, HB6⟩
              case measure => simp [intOf]; omega
            · have t1 : (nn == Q1 + 1) = false := by simpa using g1
              have t2 : (nn == -Q2 - 1) = true := by simpa using g2
              have HP1 := Lib.hid (HPP2.out.2 (.inr g2))
              clear g1 g2
              go_wp2_with (at_builtin; refine wpList_append_lies _ rfl (.tmp 131) (.tmp 135) 27 rfl wX.heap.size 3 i0 (.int .i64 0) 1 8 Tryz.underlying27 hi0 hz0 hz1 hz2 rfl (by decide) _ n (intV acc) rfl ((show World.ownsRow _ _ _ _ _ n _ by have h := HAE.out; unfold IntL at h; rw [HNL.out] at h; exact h).alloc _) _ 1 1 [.int .i64 (a + i)] rfl rfl (cells_atI (by simp) _ _) (by simp [Value.oneCell']) (by decide) (by unfold maxLen; omega) (by omega) (by have h5 := HBE.out.size; simp; omega) (wc.heap.size + 1) (by simp) ?_; intro g5 c5 w5 hown hgrow hat hlt5)
              have HB6 := Lib.hid ((HBE.out.alloc HBE.out.size _).grown hgrow (by have h5 := HBE.out.size; simp; omega) (fun q hq => (HAE.out.lt q hq).1))
              have HS6 : Hid (IntL w5 wX.heap.size (.slice (some ⟨g5, 0, none⟩) (n + 1) c5) (acc ++ [a + (i : Int)])) := Lib.hid (by
                unfold IntL
                rw [List.length_append, HNL.out, intV_snoc]
                exact hown)
              have HU6 := Lib.hid (HUP.out.hit HP1.out (show a + ((i + 1 : Nat) : Int) = a + i + 1 by omega))
              clear hown hgrow hat hlt5
              go_roundw
              case rel => exact ⟨some ⟨g5, 0, none⟩, n + 1, c5, i + 1, rfl, by go_num, by omega, by omega, Lib.hid ⟨_, HS6.out, HU6.out⟩, HB6⟩
              case measure => simp [intOf]; omega
            · have t1 : (nn == Q1 + 1) = false := by simpa using g1
              have t2 : (nn == -Q2 - 1) = false := by simpa using g2
              have HU6 := Lib.hid (HUP.out.miss (fun h => (HPP2.out.1 h).elim g1 g2) (show a + ((i + 1 : Nat) : Int) = a + i + 1 by omega))
              clear g1 g2
              go_wp2_with fail
              go_roundw
              case rel => exact ⟨ob, n, cap, i + 1, rfl, by go_num, by omega, by omega, Lib.hid ⟨_, HAE.out, HU6.out⟩, HBE⟩
              case measure => simp [intOf]; omega
        · have bm : (mm == mo) = true := by simpa using hm
          have bd : (U == wd) = false := by simpa using hd
          have HM2 := Lib.hid (HMISS.out fun h => hd (HPP.out.1 h).2.1)
          clear hm hd
          go_upto_region 18 with fail
          go_quiet ((go_at_call 54; exact Calls.quiet_of_same (CWq.out _ _)))
          go_wp2_with fail
          go_roundw
          case rel => exact ⟨ob, n, cap, i + 1, rfl, by go_num, by omega, by omega, Lib.hid (HM2.out _).1, Lib.hid (HM2.out _).2⟩
          case measure => simp [intOf]; omega
      · have bm : (mm == mo) = false := by simpa using hm
        have HM2 := Lib.hid (HMISS.out fun h => hm (HPP.out.1 h).1)
        clear hm
        go_upto_region 18 with fail
        go_quiet (fail)
        go_wp2_with fail
        go_roundw
        case rel => exact ⟨ob, n, cap, i + 1, rfl, by go_num, by omega, by omega, Lib.hid (HM2.out _).1, Lib.hid (HM2.out _).2⟩
        case measure => simp [intOf]; omega
    · have e : i = N := by omega
      subst e
      obtain ⟨acc, g1, g2⟩ := HA.out
      have hnl : acc.length = n := by
        obtain ⟨oa, c2, e⟩ := g1.form
        injection e with _ e _
        exact e.symm
      have HG : Hid (IntL wo w.heap.size (.slice ob n cap) acc ∧ acc.length ≤ 366 ∧ (∀ t, t ∈ acc ↔ P t) ∧ Below w.heap.size w wo) := Lib.hid ⟨g1.low (Nat.le_trans HB.out.size HBX.out.size), by omega, fun t => (g2 t).trans ⟨fun h => h.1, fun h => ⟨h, (HIN.out t h).2⟩⟩, thenB HB.out (thenB HBX.out HB5.out)⟩
      clear g1 g2 hnl
      go_wp2_with fail
      go_ret
      first | exact ⟨_, acc, rfl, HG.out⟩ | exact ⟨_, rfl, acc, HG.out⟩
end Go.Proofs.YtbgcccfgcdkmdaaGreatDoor
