/- The document's holidays of a year, over what wouldBe does. HolidaysOf, over what wouldBe does; lists of whole numbers are the same. plain.WorkCheck, plain.WorkHolidays. The document's wouldBe: the two Easters. -/
import Derived.Test.YtbgcccfgcdkmdaaGreatDoorUG8
import Derived.Test.YtbgcccfgcdkmdaaGreatDoorUG7
namespace Go.Proofs.YtbgcccfgcdkmdaaGreatDoor
open Go.RowKit Wrk
namespace Wrk
def putN (acc ds : List Int) (how : Int) : Nat → List Int
  | 0 => acc
  | k + 1 => put (putN acc ds how k) (mv how (ds.getD k 0))
theorem putN_rises {acc ds : List Int} {how : Int} (h : Rises acc) : ∀ k, Rises (putN acc ds how k)
  | 0 => h
  | k + 1 => put_rises (putN_rises h k) _
theorem putN_len {acc ds : List Int} {how : Int} : ∀ k, (putN acc ds how k).length ≤ acc.length + k
  | 0 => Nat.le_refl _
  | k + 1 => by
    have h1 := put_len (putN acc ds how k) (mv how (ds.getD k 0))
    have h2 := putN_len (acc := acc) (ds := ds) (how := how) k
    unfold putN
    omega
theorem putN_mem {acc ds : List Int} {how : Int} (t : Int) : ∀ k, t ∈ putN acc ds how k ↔ t ∈ acc ∨ ∃ j, j < k ∧ t = mv how (ds.getD j 0)
  | 0 => by simp [putN]
  | k + 1 => by
    unfold putN
    rw [put_mem, putN_mem t k]
    constructor
    · rintro (h | h | ⟨j, h1, h2⟩)
      · exact .inr ⟨k, by omega, h⟩
      · exact .inl h
      · exact .inr ⟨j, by omega, h2⟩
    · rintro (h | ⟨j, h1, h2⟩)
      · exact .inr (.inl h)
      · by_cases hj : j = k
        · subst hj; exact .inl h2
        · exact .inr (.inr ⟨j, by omega, h2⟩)
theorem putN_all {acc ds : List Int} {how : Int} (t : Int) : t ∈ putN acc ds how ds.length ↔ t ∈ acc ++ ds.map (mv how) := by
  rw [putN_mem, List.mem_append, List.mem_map]
  constructor
  · rintro (h | ⟨j, h1, h2⟩)
    · exact .inl h
    · exact .inr ⟨ds.getD j 0, by rw [List.getD_eq_getElem?_getD, List.getElem?_eq_getElem h1]; exact List.getElem_mem _, h2.symm⟩
  · rintro (h | ⟨d, h1, h2⟩)
    · exact .inl h
    · obtain ⟨j, hj, rfl⟩ := List.getElem_of_mem h1
      exact .inr ⟨j, hj, by rw [List.getD_eq_getElem?_getD, List.getElem?_eq_getElem hj]; exact h2.symm⟩
end Wrk
def WouldPost (x : Hol) (y : Int) (w : World) (e : Ending) (w' : World) : Prop := ∃ v l, e = .returned v ∧ IntL w' w.heap.size v l ∧ l.length ≤ 366 ∧ (∀ t, t ∈ l ↔ OnD x y t) ∧ Below w.heap.size w w'
set_option maxRecDepth 100000 in
set_option maxHeartbeats 16000000 in
theorem rholidays_of (HWB : ∀ (x : Hol) (y : Int) (w : World), hE x = 0 → 1 ≤ y → y ≤ 9999 → Calls Tryz.prog 40 #[holV x, .int .i64 y] w (WouldPost x y w))
    (B : Nat) (H : Hrs) (s : Nat → Value) (vh : Value) (y : Int) (w : World) (hR : HrsR B w s vh H) (hB : B ≤ w.heap.size) (hc : chk H = 0) (h1 : 1 ≤ y) (h2 : y ≤ 9999) : Calls Tryz.prog 27 #[hoursV s vh, .int .i64 y] w fun e w' => ∃ v l, e = .returned v ∧ IntL w' w.heap.size v l ∧ Rises l ∧ (∀ t, t ∈ l ↔ HolD H.hols y t) ∧ Below w.heap.size w w' := by
  obtain ⟨hle, hok⟩ := chk_ok hc
  have HWC := Lib.hid HWB
  have HOK := Lib.hid hok
  unfold hoursV
  obtain ⟨wB, hwB⟩ : ∃ W, w.alloc (.cells #[s 0, s 1, s 2, s 3, s 4, s 5, s 6, vh] 26) = W := ⟨_, rfl⟩
  have hb0 : Below w.heap.size w wB := by rw [← hwB]; exact (Below.refl _ _).alloc (Nat.le_refl _) _
  have HB0 := Lib.hid hb0
  have HH := Lib.hid (hR.call (hb0.mono hB))
  have HBB := Lib.hid (show B ≤ wB.heap.size from Nat.le_trans hB hb0.size)
  have HLT := Lib.hid (show w.heap.size < wB.heap.size by rw [← hwB]; simp)
  obtain ⟨oh, ch, rfl⟩ := hR.hols.form
  obtain ⟨nh, hnh⟩ : ∃ n, H.hols.length = n := ⟨_, rfl⟩
  have HNH := Lib.hid hnh
  have HAL := Lib.hid fun t => gives_all H.hols y t
  rw [hnh] at HH hwB hle HOK HAL ⊢
  have f7 : wB.cell? ⟨w.heap.size, 7, none⟩ = some (.slice oh nh ch) := by rw [← hwB]; simp
  clear hb0 hR hB hnh hok hc HWB
  go_enter Tryz.func27, Tryz.ntmps27
  go_upto_region 1 with fail
  clear hwB
  go_wp2_with fail
  go_loopw [5, 13] (fun v c wr => ∃ (v5 : Value) (i : Nat), v5 = v ∧ c = .int .i64 (i : Int) ∧ i ≤ nh ∧ Hid (∃ acc, IntL wr wB.heap.size v5 acc ∧ Rises acc ∧ acc.length ≤ 366 * i ∧ ∀ t, t ∈ acc ↔ Gives H.hols y i t) ∧ Hid (Below wB.heap.size wB wr)) (fun _ c _ => nh - (intOf c).toNat)
  case atStart => exact ⟨_, 0, rfl, rfl, by omega, Lib.hid ⟨[], IntL.nil _ _, List.Pairwise.nil, by simp, fun t => by simp [Gives]⟩, Lib.hid (Below.refl _ _)⟩
  case round =>
    obtain ⟨v5, i, hv5, rfl, hi, HA, HB⟩ := hrel
    subst hv5
    obtain ⟨wo, hwo⟩ : ∃ wo : World, wo = wr := ⟨_, rfl⟩
    subst hwo
    clear f7
    by_cases hik : i < nh
    · obtain ⟨a, rfl, hab, c0, c1, c2, c3, c4, c5, c6, c7, c8, c9⟩ := (HH.out.hols.call (hBW HBB.out HB.out)).at (i := i) (by rw [HNH.out]; omega)
      have k1 : (0 : Int) ≤ (i : Int) := by omega
      have k2 : (i : Int) < (nh : Int) := by omega
      have HX0 := Lib.hid (HOK.out i hik)
      have HSK := Lib.hid fun h t => gives_skip (L := H.hols) (y := y) (n := i) h t
      have HTK := Lib.hid fun h1 h2 acc ds ha hd t => gives_take (L := H.hols) (y := y) (n := i) h1 h2 (acc := acc) (ds := ds) ha hd t
      obtain ⟨x, hx⟩ : ∃ x, H.hols.getD i hol0 = x := ⟨_, rfl⟩
      rw [hx] at c0 c1 c2 c3 c4 c5 c6 c7 c8 c9 HX0
      simp only [hx] at HSK HTK
      have CO := Lib.hid fun w0 => HWC.out x y w0 HX0.out h1 h2
      have HBD := Lib.hid fun d h => OnD_bd (x := x) (y := y) (d := d) HX0.out h1 h2 h
      obtain ⟨P, hP⟩ : ∃ P : Int → Prop, ∀ t, OnD x y t ↔ P t := ⟨_, fun t => Iff.rfl⟩
      unfold WouldPost at CO
      simp only [hP] at CO HBD HTK
      clear hP hx HX0
      obtain ⟨ki, ca, mo, dy, nn, wd, of, lo, hi', mvs⟩ := x
      unfold holV at CO
      simp only at c0 c1 c2 c3 c4 c5 c6 c7 c8 c9 CO HSK HTK
      obtain ⟨z7, hz7⟩ : ∃ z, wo.heap.size = z := ⟨_, rfl⟩
      go_upto_region 5 with fail
      obtain ⟨wA, hwA⟩ : ∃ W, wo.alloc (.cells #[.int .i64 ki, .int .i64 ca, .int .i64 mo, .int .i64 dy, .int .i64 nn, .int .i64 wd, .int .i64 of, .int .i64 lo, .int .i64 hi', .int .i64 mvs] 59) = W := ⟨_, rfl⟩
      have hA : Below wo.heap.size wo wA := by rw [← hwA]; exact (Below.refl _ _).alloc (Nat.le_refl _) _
      have HWA := Lib.hid (thenB HB.out hA)
      have HZA := Lib.hid (show wA.heap.size = z7 + 1 by rw [← hwA, ← hz7]; simp)
      have a0 : wA.cell? ⟨z7, 0, none⟩ = some (.int .i64 ki) := by rw [← hwA, ← hz7]; simp
      have a1 : wA.cell? ⟨z7, 1, none⟩ = some (.int .i64 ca) := by rw [← hwA, ← hz7]; simp
      have a2 : wA.cell? ⟨z7, 2, none⟩ = some (.int .i64 mo) := by rw [← hwA, ← hz7]; simp
      have a3 : wA.cell? ⟨z7, 3, none⟩ = some (.int .i64 dy) := by rw [← hwA, ← hz7]; simp
      have a4 : wA.cell? ⟨z7, 4, none⟩ = some (.int .i64 nn) := by rw [← hwA, ← hz7]; simp
      have a5 : wA.cell? ⟨z7, 5, none⟩ = some (.int .i64 wd) := by rw [← hwA, ← hz7]; simp
      have a6 : wA.cell? ⟨z7, 6, none⟩ = some (.int .i64 of) := by rw [← hwA, ← hz7]; simp
      have a7 : wA.cell? ⟨z7, 7, none⟩ = some (.int .i64 lo) := by rw [← hwA, ← hz7]; simp
      have a8 : wA.cell? ⟨z7, 8, none⟩ = some (.int .i64 hi') := by rw [← hwA, ← hz7]; simp
      have a9 : wA.cell? ⟨z7, 9, none⟩ = some (.int .i64 mvs) := by rw [← hwA, ← hz7]; simp
      have HA2 : Hid (∃ acc, IntL wA wB.heap.size v5 acc ∧ Rises acc ∧ acc.length ≤ 366 * i ∧ ∀ t, t ∈ acc ↔ Gives H.hols y i t) := Lib.hid (by
        obtain ⟨acc, g1, g2⟩ := HA.out
        exact ⟨acc, g1.call hA, g2⟩)
      rw [hwA]
      clear hA hwA c0 c1 c2 c3 c4 c5 c6 c7 c8 c9 hz7
      by_cases hlo : lo ≤ y ∧ y ≤ hi'
      · have l1 : ¬ y < lo := by omega
        have l2 : ¬ hi' < y := by omega
        have HLO := Lib.hid hlo
        clear hlo
        go_wp2_with (go_at_call 40; (with_reducible refine (CO.out _).mono ?_); rintro e w4 ⟨v, ds, rfl, hv, hl3, hmem, hb4⟩; obtain ⟨od, cd, hvf⟩ := hv.form; subst hvf; have HV := Lib.hid hv; have HM := Lib.hid hmem; have HB4 := Lib.hid hb4; obtain ⟨nd, hnd⟩ : ∃ n, ds.length = n := ⟨_, rfl⟩; rw [hnd] at HV hl3 ⊢; have HND := Lib.hid hnd; clear hv hmem hb4 hnd)
        obtain ⟨acc, hacc, hri, hln, hmem⟩ := HA2.out
        have HBW4 := Lib.hid (thenB HWA.out HB4.out)
        have HACC := Lib.hid (hacc.call HB4.out)
        have HMEM := Lib.hid hmem
        have HRI := Lib.hid hri
        have b9 := (HB4.out.cell (p := ⟨z7, 9, none⟩) (by rw [HZA.out]; exact Nat.lt_succ_self _)).trans a9
        have HB9 := Lib.hid b9
        have HS4 := Lib.hid (show z7 < w4.heap.size by have := HB4.out.size; rw [HZA.out] at this; omega)
        clear hacc hmem hri b9 a0 a1 a2 a3 a4 a5 a6 a7 a8 a9 l1 l2 HA2
        go_loopw [5, 31] (fun v c wr => ∃ (v6 : Value) (k : Nat), v6 = v ∧ c = .int .i64 (k : Int) ∧ k ≤ nd ∧ Hid (IntL wr wB.heap.size v6 (putN acc ds mvs k)) ∧ Hid (Below w4.heap.size w4 wr)) (fun _ c _ => nd - (intOf c).toNat)
        case atStart => exact ⟨_, 0, rfl, rfl, by omega, HACC, Lib.hid (Below.refl _ _)⟩
        case round =>
          obtain ⟨v6, k, hv6, rfl, hk, HS, HBI⟩ := hrel
          subst hv6
          by_cases hkd : k < nd
          · obtain ⟨gd, rfl, hg1, hg2, hg3, -⟩ := HV.out.at (k := k) (by rw [HND.out]; exact hkd)
            have e1 := (HBI.out.cell (p := ⟨gd, k, none⟩) hg2).trans hg3
            have e2 := (HBI.out.cell (p := ⟨z7, 9, none⟩) HS4.out).trans HB9.out
            have hdm : ds.getD k 0 ∈ ds := by
              rw [List.getD_eq_getElem?_getD, List.getElem?_eq_getElem (by rw [HND.out]; exact hkd)]
              exact List.getElem_mem _
            have hbd := HBD.out _ ((HM.out _).1 hdm)
            have HT : Hid (putN acc ds mvs (k + 1) = put (putN acc ds mvs k) (mv mvs (ds.getD k 0))) := Lib.hid rfl
            have hplen : (putN acc ds mvs k).length ≤ 100000 := by
              have := putN_len (acc := acc) (ds := ds) (how := mvs) k
              omega
            obtain ⟨d, hd⟩ : ∃ d, ds.getD k 0 = d := ⟨_, rfl⟩
            rw [hd] at e1 hbd HT
            have CM := Lib.hid fun w0 => goes_any d mvs w0 (by omega) (by omega)
            obtain ⟨r, hrr⟩ : ∃ r, mv mvs d = r := ⟨_, rfl⟩
            rw [hrr] at CM HT
            have CP := Lib.hid (put_any v6 wB.heap.size (putN acc ds mvs k) r wr HS.out hplen (Nat.le_trans HBW4.out.size HBI.out.size))
            rw [← HT.out] at CP
            have k3 : (0 : Int) ≤ (k : Int) := by omega
            have k4 : (k : Int) < (nd : Int) := by omega
            clear hg1 hg2 hg3 hdm hbd hd hrr hplen HT
            go_wp2_with (first
              | (go_at_call 42; (with_reducible refine (CM.out _).mono ?_); rintro e w5 ⟨rfl, rfl⟩)
              | (go_at_call 41; refine (CP.out).mono ?_; rintro e w5 ⟨v7, rfl, hv7, hb5⟩; have HV7 := Lib.hid hv7; have HB5 := Lib.hid (thenB HBI.out hb5); clear hv7 hb5))
            go_roundw
            case rel => exact ⟨_, k + 1, rfl, by go_num, by omega, HV7, HB5⟩
            case measure => simp [intOf]; omega
          · have hkn : k = nd := by omega
            subst hkn
            have HG : Hid (∃ acc', IntL wr wB.heap.size v6 acc' ∧ Rises acc' ∧ acc'.length ≤ 366 * (i + 1) ∧ ∀ t, t ∈ acc' ↔ Gives H.hols y (i + 1) t) := Lib.hid ⟨_, HS.out, putN_rises HRI.out k, by have := putN_len (acc := acc) (ds := ds) (how := mvs) k; omega, fun t => by rw [← HTK.out HLO.out.1 HLO.out.2 acc ds HMEM.out HM.out t, ← putN_all, HND.out]⟩
            have HBO := Lib.hid (thenB HBW4.out HBI.out)
            go_wp2_with fail
            go_roundw
            case rel => first | exact ⟨_, i + 1, rfl, by go_num, by omega, HG, HBO⟩ | ((repeat apply Exists.intro); exact ⟨⟨rfl, by go_num, by omega, HG, HBO⟩, rfl⟩)
            case measure => simp [intOf]; omega
      · have HG : Hid (∃ acc', IntL wA wB.heap.size v5 acc' ∧ Rises acc' ∧ acc'.length ≤ 366 * (i + 1) ∧ ∀ t, t ∈ acc' ↔ Gives H.hols y (i + 1) t) := Lib.hid (by
          obtain ⟨acc, g1, g2, g3, g4⟩ := HA2.out
          exact ⟨acc, g1, g2, by omega, fun t => (g4 t).trans (HSK.out hlo t).symm⟩)
        by_cases l1 : y < lo
        · clear hlo
          go_wp2_with fail
          go_roundw
          case rel => exact ⟨_, i + 1, rfl, by go_num, by omega, HG, HWA⟩
          case measure => simp [intOf]; omega
        · have l2 : hi' < y := by omega
          clear hlo
          go_wp2_with fail
          go_roundw
          case rel => exact ⟨_, i + 1, rfl, by go_num, by omega, HG, HWA⟩
          case measure => simp [intOf]; omega
    · have hin : i = nh := by omega
      subst hin
      go_wp2_with fail
      go_ret
      obtain ⟨acc, g1, g2, -, g4⟩ := HA.out
      exact ⟨_, acc, rfl, g1.low (Nat.le_of_lt HLT.out), g2, fun t => (g4 t).trans (HAL.out t), thenB HB0.out HB.out⟩
end Go.Proofs.YtbgcccfgcdkmdaaGreatDoor
namespace Go.Proofs.YtbgcccfgcdkmdaaGreatDoor
open Go.RowKit Wrk
theorem IntL.len {w : World} {b : Nat} {v : Value} {l : List Int} (h : IntL w b v l) : l.length ≤ maxLen := by
  rcases h.2 with ⟨_, h0⟩ | ⟨g, cap, cur, _, _, _, h1, h2, _⟩
  · omega
  · omega
set_option maxRecDepth 100000 in
set_option maxHeartbeats 4000000 in
theorem listI_same (v1 v2 : Value) (b1 b2 : Nat) (l : List Int) (w : World) (h1 : IntL w b1 v1 l) (h2 : IntL w b2 v2 l) :
    Calls Tryz.prog 12 #[v1, v2] w fun e w' => e = .returned (.bool true) ∧ Below w.heap.size w w' := by
  have hl := h1.len
  unfold maxLen at hl
  obtain ⟨o1, c1, rfl⟩ := h1.form
  obtain ⟨o2, c2, rfl⟩ := h2.form
  obtain ⟨n, hn⟩ : ∃ x, l.length = x := ⟨_, rfl⟩
  have HN := Lib.hid hn
  rw [hn] at hl h1 h2 ⊢
  have H1' := Lib.hid h1
  have H2' := Lib.hid h2
  clear h1 h2 hn
  have hnb : ((n : Int) != (n : Int)) = false := by simp
  go_enter Tryz.func12, Tryz.ntmps12
  go_wp2_with fail
  go_loopw [5] (fun c wr => ∃ k : Nat, c = .int .i64 (k : Int) ∧ k ≤ n ∧ Hid (Below w.heap.size w wr)) (fun c _ => n - (intOf c).toNat)
  case atStart => exact ⟨0, rfl, by omega, Lib.hid (Below.refl _ _)⟩
  case round =>
    obtain ⟨k, rfl, hk, HB⟩ := hrel
    by_cases hkn : k < n
    · obtain ⟨g1, rfl, -, -, p1, -⟩ := (H1'.out.call HB.out).at (show k < l.length by rw [HN.out]; exact hkn)
      obtain ⟨g2, rfl, -, -, p2, -⟩ := (H2'.out.call HB.out).at (show k < l.length by rw [HN.out]; exact hkn)
      obtain ⟨F, hF⟩ : ∃ x : Int, l.getD k 0 = x := ⟨_, rfl⟩
      rw [hF] at p1 p2
      have r1 := cell_regrown p1
      have r2 := cell_regrown p2
      have k1 : (0 : Int) ≤ (k : Int) := by omega
      have k2 : (k : Int) < (n : Int) := by omega
      clear hF p1 p2
      go_wp2_with fail
      refine wp_region_below (by kernel_rfl) (by kernel_rfl) ?_
      repeat (go_big_quiet_step (fail))
      refine wpQuiet_nil ?_
      intro w1 hb1
      have HB1 := Lib.hid (thenB HB.out hb1)
      clear hb1 r1 r2
      go_wp2_with fail
      go_roundw
      case rel => exact ⟨k + 1, by go_num, by omega, HB1⟩
      case measure => simp [intOf]; omega
    · go_wp2_with fail
      go_ret
      exact ⟨rfl, HB.out⟩
set_option maxRecDepth 100000 in
set_option maxHeartbeats 16000000 in
theorem rHolidays_of (HWB : ∀ (x : Hol) (y : Int) (w : World), hE x = 0 → 1 ≤ y → y ≤ 9999 → Calls Tryz.prog 40 #[holV x, .int .i64 y] w (WouldPost x y w)) (B : Nat) (H : Hrs) (s : Nat → Value) (vh : Value) (y : Int) (w : World) (hR : HrsR B w s vh H) (hB : B ≤ w.heap.size) : Calls Tryz.prog 9 #[hoursV s vh, .int .i64 y] w (HolPost H y (Value.int .i64) w) := by
  obtain ⟨wB, hwB, ⟨hb0, hlt⟩, f0, f1, f2, f3, f4, f5, f6, f7⟩ := hours_cells s vh w
  have HB0 := Lib.hid hb0
  have HLT := Lib.hid hlt
  have HH := Lib.hid (hR.call (hb0.mono hB))
  have HBB := Lib.hid (show B ≤ wB.heap.size from Nat.le_trans hB hb0.size)
  have CC := Lib.hid (hoursCheck_any B H s vh wB HH.out HBB.out)
  have HP : Hid (∀ l x v w', IntL w' w.heap.size v l → HolOk H y l x → Below w.heap.size w w' → HolPost H y (Value.int .i64) w (.returned (.tuple #[v, Value.int .i64 x])) w') := Lib.hid fun l x v w' h1 h2 h3 => ⟨v, x, rfl, ⟨l, h1, h2⟩, h3⟩
  have CH := Lib.hid fun h1 h2 h3 w0 hb => rholidays_of HWB B H s vh y w0 (HH.out.call (hBW HBB.out hb)) (Nat.le_trans HBB.out hb.size) h1 h2 h3
  obtain ⟨E, hE⟩ : ∃ E, chk H = E := ⟨_, rfl⟩
  have HE := Lib.hid hE
  rw [hE] at CC CH
  unfold hoursV at CC CH
  unfold hoursV
  clear hE hb0 hlt hR hB HWB
  by_cases h0 : E = 0
  · subst h0
    go_enter Tryz.func9, Tryz.ntmps9
    go_upto_region 4 with (go_at_call 11; refine (CC.out).mono ?_; rintro e w2 ⟨rfl, hb2⟩; have HB2 := Lib.hid hb2; clear hb2)
    have HBW := Lib.hid (thenB HB0.out HB2.out)
    have g0 := (HB2.out.cell (p := ⟨w.heap.size, 0, none⟩) HLT.out).trans f0
    have g1 := (HB2.out.cell (p := ⟨w.heap.size, 1, none⟩) HLT.out).trans f1
    have g2 := (HB2.out.cell (p := ⟨w.heap.size, 2, none⟩) HLT.out).trans f2
    have g3 := (HB2.out.cell (p := ⟨w.heap.size, 3, none⟩) HLT.out).trans f3
    have g4 := (HB2.out.cell (p := ⟨w.heap.size, 4, none⟩) HLT.out).trans f4
    have g5 := (HB2.out.cell (p := ⟨w.heap.size, 5, none⟩) HLT.out).trans f5
    have g6 := (HB2.out.cell (p := ⟨w.heap.size, 6, none⟩) HLT.out).trans f6
    have g7 := (HB2.out.cell (p := ⟨w.heap.size, 7, none⟩) HLT.out).trans f7
    clear f0 f1 f2 f3 f4 f5 f6 f7 hwB
    by_cases l1 : y < 1
    · have HO : Hid (HolOk H y [] 4) := Lib.hid (.inr (.inl ⟨HE.out, by omega, rfl, rfl⟩))
      go_wp2_with fail
      go_ret2
      exact HP.out [] 4 _ _ (IntL.nil _ _) HO.out HBW.out
    · by_cases l2 : 9999 < y
      · have HO : Hid (HolOk H y [] 4) := Lib.hid (.inr (.inl ⟨HE.out, by omega, rfl, rfl⟩))
        go_wp2_with fail
        go_ret2
        exact HP.out [] 4 _ _ (IntL.nil _ _) HO.out HBW.out
      · have CH2 := Lib.hid (CH.out trivial (by omega) (by omega) w2 HB2.out)
        have HO : Hid (∀ l, Rises l → (∀ t, t ∈ l ↔ HolD H.hols y t) → HolOk H y l 0) := Lib.hid fun l h1 h2 => .inr (.inr ⟨HE.out, by omega, by omega, rfl, h1, h2⟩)
        go_wp2_with (go_at_call 27; refine (CH2.out).mono ?_; rintro e w3 ⟨v, l, rfl, hv, h1, h2, hb3⟩; have HV := Lib.hid hv; have HO2 := Lib.hid (HO.out l h1 h2); have HB3 := Lib.hid (thenB HBW.out hb3); clear hv h1 h2 hb3)
        go_ret2
        exact HP.out _ 0 _ _ (HV.out.low HBW.out.size) HO2.out HB3.out
  · have HO : Hid (HolOk H y [] E) := Lib.hid (.inl ⟨by rw [HE.out]; exact h0, HE.out.symm, rfl⟩)
    have bE : (E == 0) = false := beq_eq_false_iff_ne.2 h0
    go_enter Tryz.func9, Tryz.ntmps9
    go_wp2_with (go_at_call 11; refine (CC.out).mono ?_; rintro e w2 ⟨rfl, hb2⟩; have HB2 := Lib.hid hb2; clear hb2)
    go_ret2
    exact HP.out [] E (.slice none 0 0) _ (IntL.nil _ _) HO.out (thenB HB0.out HB2.out)
end Go.Proofs.YtbgcccfgcdkmdaaGreatDoor
namespace Go.Proofs.YtbgcccfgcdkmdaaGreatDoor
open Go.RowKit Wrk
set_option maxRecDepth 100000 in
set_option maxHeartbeats 8000000 in
theorem plainCheck_any (B : Nat) (H : Hrs) (s : Nat → Value) (vh : Value) (w : World) (hT : ErrT w) (hr : RomanT w) (hR : HrsR B w s vh H) (hB : B ≤ w.heap.size) : Calls Tryz.prog 10 #[hoursV s vh] w fun e w' => e = .returned (.int .i64 (chk H)) ∧ Below w.heap.size w w' := by
  obtain ⟨wB, hwB, ⟨hb0, hlt⟩, f0, f1, f2, f3, f4, f5, f6, f7⟩ := hours_cells s vh w
  have HB0 := Lib.hid hb0
  have CC := Lib.hid (check_any B H s vh wB (RomanT.call hr hb0) (hR.call (hb0.mono hB)) (Nat.le_trans hB hb0.size))
  have HT := Lib.hid (hT.call hb0)
  unfold hoursV at CC
  unfold hoursV
  clear hb0 hlt hr hR hB hT
  go_enter Tryz.func10, Tryz.ntmps10
  go_wp2_with (first
    | (go_at_call 28; refine (CC.out).mono ?_; rintro e w2 ⟨rfl, hb2⟩; have HB2 := Lib.hid hb2; have HT2 := Lib.hid (HT.out.call hb2); clear hb2)
    | (go_at_call 26; refine (tell_any _ _ HT2.out).mono ?_; rintro e w3 ⟨rfl, hb3⟩; have HB3 := Lib.hid hb3; clear hb3))
  go_ret
  exact ⟨rfl, thenB HB0.out (thenB HB2.out HB3.out)⟩
set_option maxRecDepth 100000 in
set_option maxHeartbeats 8000000 in
theorem plainHolidays_any (B : Nat) (H : Hrs) (s : Nat → Value) (vh : Value) (y : Int) (w : World) (hT : ErrT w) (hr : RomanT w) (hR : HrsR B w s vh H) (hB : B ≤ w.heap.size) : Calls Tryz.prog 8 #[hoursV s vh, .int .i64 y] w (HolPost H y (Value.int .i64) w) := by
  obtain ⟨wB, hwB, ⟨hb0, hlt⟩, f0, f1, f2, f3, f4, f5, f6, f7⟩ := hours_cells s vh w
  have HB0 := Lib.hid hb0
  have CC := Lib.hid (Holidays_any B H s vh y wB (RomanT.call hr hb0) (hR.call (hb0.mono hB)) (Nat.le_trans hB hb0.size))
  have HT := Lib.hid (hT.call hb0)
  unfold hoursV at CC
  unfold hoursV
  clear hb0 hlt hr hR hB hT
  go_enter Tryz.func8, Tryz.ntmps8
  go_wp2_with (first
    | (go_at_call 25; refine (CC.out).mono ?_; rintro e w2 ⟨v, x, rfl, hL, hb2⟩; have HL := Lib.hid hL; have HB2 := Lib.hid hb2; have HT2 := Lib.hid (HT.out.call hb2); clear hb2 hL)
    | (go_at_call 26; refine (tell_any _ _ HT2.out).mono ?_; rintro e w3 ⟨rfl, hb3⟩; have HB3 := Lib.hid hb3; clear hb3))
  go_ret2
  obtain ⟨l, g1, g2⟩ := HL.out
  exact ⟨_, x, rfl, ⟨l, (g1.low HB0.out.size).call HB3.out, g2⟩, thenB HB0.out (thenB HB2.out HB3.out)⟩
set_option maxRecDepth 100000 in
set_option maxHeartbeats 16000000 in
theorem workHolidays_of (HWB : ∀ (x : Hol) (y : Int) (w : World), hE x = 0 → 1 ≤ y → y ≤ 9999 → Calls Tryz.prog 40 #[holV x, .int .i64 y] w (WouldPost x y w))
    (B : Nat) (H : Hrs) (s : Nat → Value) (vh : Value) (y : Int) (w : World) (hT : ErrT w) (hr : RomanT w) (hR : HrsR B w s vh H) (hB : B ≤ w.heap.size) : Calls Tryz.prog 3 #[hoursV s vh, .int .i64 y] w fun e w' => e = .returned (.bool true) ∧ Below w.heap.size w w' := by
  obtain ⟨wB, hwB, ⟨hb0, hlt⟩, f0, f1, f2, f3, f4, f5, f6, f7⟩ := hours_cells s vh w
  have HB0 := Lib.hid hb0
  have HLT := Lib.hid hlt
  have P1 := Lib.hid (fun w0 (hb : Below wB.heap.size wB w0) => plainHolidays_any B H s vh y w0 ((hT.call hb0).call hb) (RomanT.call (RomanT.call hr hb0) hb) ((hR.call (hb0.mono hB)).call (hb.mono (Nat.le_trans hB hb0.size))) (Nat.le_trans (Nat.le_trans hB hb0.size) hb.size))
  have P2 := Lib.hid (fun w0 (hb : Below wB.heap.size wB w0) => rHolidays_of HWB B H s vh y w0 ((hR.call (hb0.mono hB)).call (hb.mono (Nat.le_trans hB hb0.size))) (Nat.le_trans (Nat.le_trans hB hb0.size) hb.size))
  have P3 := Lib.hid (fun w0 (hb : Below wB.heap.size wB w0) => plainCheck_any B H s vh w0 ((hT.call hb0).call hb) (RomanT.call (RomanT.call hr hb0) hb) ((hR.call (hb0.mono hB)).call (hb.mono (Nat.le_trans hB hb0.size))) (Nat.le_trans (Nat.le_trans hB hb0.size) hb.size))
  have P4 := Lib.hid (fun w0 (hb : Below wB.heap.size wB w0) => hoursCheck_any B H s vh w0 ((hR.call (hb0.mono hB)).call (hb.mono (Nat.le_trans hB hb0.size))) (Nat.le_trans (Nat.le_trans hB hb0.size) hb.size))
  have HS : Hid (∀ w' : World, Below wB.heap.size wB w' → (w'.cell? ⟨w.heap.size, 0, none⟩ = some (s 0) ∧ w'.cell? ⟨w.heap.size, 1, none⟩ = some (s 1) ∧ w'.cell? ⟨w.heap.size, 2, none⟩ = some (s 2) ∧ w'.cell? ⟨w.heap.size, 3, none⟩ = some (s 3) ∧ w'.cell? ⟨w.heap.size, 4, none⟩ = some (s 4) ∧ w'.cell? ⟨w.heap.size, 5, none⟩ = some (s 5) ∧ w'.cell? ⟨w.heap.size, 6, none⟩ = some (s 6) ∧ w'.cell? ⟨w.heap.size, 7, none⟩ = some vh)) := Lib.hid fun w' hb =>
    ⟨(hb.cell (p := ⟨w.heap.size, 0, none⟩) HLT.out).trans f0, (hb.cell (p := ⟨w.heap.size, 1, none⟩) HLT.out).trans f1, (hb.cell (p := ⟨w.heap.size, 2, none⟩) HLT.out).trans f2, (hb.cell (p := ⟨w.heap.size, 3, none⟩) HLT.out).trans f3, (hb.cell (p := ⟨w.heap.size, 4, none⟩) HLT.out).trans f4, (hb.cell (p := ⟨w.heap.size, 5, none⟩) HLT.out).trans f5, (hb.cell (p := ⟨w.heap.size, 6, none⟩) HLT.out).trans f6, (hb.cell (p := ⟨w.heap.size, 7, none⟩) HLT.out).trans f7⟩
  obtain ⟨E, hE⟩ : ∃ E, chk H = E := ⟨_, rfl⟩
  rw [hE] at P3 P4
  unfold hoursV at P1 P2 P3 P4
  unfold hoursV
  have hEE : (E == E) = true := beq_self_eq_true E
  clear hb0 hlt hr hR hB hT HWB hE
  go_enter Tryz.func3, Tryz.ntmps3
  go_upto_region 2 with (go_at_call 8; refine (P1.out wB (Below.refl _ _)).mono ?_; rintro e w2 ⟨v1, x, rfl, hL1, hb2⟩; have HL1 := Lib.hid hL1; have HB2 := Lib.hid hb2; clear hb2 hL1)
  obtain ⟨g0, g1, g2, g3, g4, g5, g6, g7⟩ := HS.out _ HB2.out
  clear f0 f1 f2 f3 f4 f5 f6 f7 hwB
  go_upto_region 3 with (go_at_call 9; refine (P2.out _ HB2.out).mono ?_; rintro e w3 ⟨v2, x2, rfl, hL2, hb3⟩; have HL2 := Lib.hid hL2; have HB3 := Lib.hid (thenB HB2.out hb3); have HBA := Lib.hid hb3; clear hb3 hL2)
  obtain ⟨l, m1, o1⟩ := HL1.out
  obtain ⟨l2, m2, o2⟩ := HL2.out
  obtain ⟨rfl, rfl⟩ := o1.one o2
  have M1 := Lib.hid (m1.call HBA.out)
  have M2 := Lib.hid m2
  have hxx : (x == x) = true := beq_self_eq_true x
  have HX := Lib.hid (Below.drew (Below.refl w3.heap.size w3))
  clear m1 m2 o1 o2 g0 g1 g2 g3 g4 g5 g6 g7
  go_region_held3 (fun w' => w'.cell? ⟨w.heap.size, 0, none⟩ = some (s 0) ∧ w'.cell? ⟨w.heap.size, 1, none⟩ = some (s 1) ∧ w'.cell? ⟨w.heap.size, 2, none⟩ = some (s 2) ∧ w'.cell? ⟨w.heap.size, 3, none⟩ = some (s 3) ∧ w'.cell? ⟨w.heap.size, 4, none⟩ = some (s 4) ∧ w'.cell? ⟨w.heap.size, 5, none⟩ = some (s 5) ∧ w'.cell? ⟨w.heap.size, 6, none⟩ = some (s 6) ∧ w'.cell? ⟨w.heap.size, 7, none⟩ = some vh) (first | exact HS.out _ (thenB HB3.out HX.out))
   (first
    | (go_at_call 10; (with_reducible refine (P3.out _ (thenB HB3.out HX.out)).mono ?_); rintro e w4 ⟨rfl, hb4⟩; replace HX := Lib.hid (thenB HX.out hb4); clear hb4; try dsimp only)
    | (go_at_call 11; (with_reducible refine (P4.out _ (thenB HB3.out HX.out)).mono ?_); rintro e w5 ⟨rfl, hb5⟩; replace HX := Lib.hid (thenB HX.out hb5); clear hb5; try dsimp only)
    | (go_at_call 12; refine (listI_same _ _ _ _ l _ (M1.out.call HX.out) (M2.out.call HX.out)).mono ?_; rintro e w6 ⟨rfl, hb6⟩; replace HX := Lib.hid (thenB HX.out hb6); clear hb6; try dsimp only))
  go_wp2_with fail
  go_ret
  exact ⟨rfl, thenB HB0.out (thenB HB3.out HX.out)⟩
end Go.Proofs.YtbgcccfgcdkmdaaGreatDoor
namespace Go.Proofs.YtbgcccfgcdkmdaaGreatDoor
open Go.RowKit Wrk
set_option maxRecDepth 100000 in
set_option maxHeartbeats 16000000 in
theorem would_east3 (x : Hol) (y : Int) (w : World) (hk : x.kind = 3) (o1 : -100 ≤ x.off) (o2 : x.off ≤ 100) (h1 : 1 ≤ y) (h2 : y ≤ 9999) :
    Calls Tryz.prog 40 #[holV x, .int .i64 y] w (WouldPost x y w) := by
  have HC : Hid (∀ w0, Calls Tryz.prog 66 #[.int .i64 y, .bool false] w0 fun e w' => ∃ r, e = .returned (.tuple #[.int .i64 r, .int .i64 0]) ∧ (-900000 ≤ r ∧ r ≤ 4000000) ∧ (∀ t, t ∈ [r + x.off] ↔ OnD x y t) ∧ Below w0.heap.size w0 w') := Lib.hid fun w0 => (refEaster_all y false w0).mono fun e w' ⟨r, z, g1, g2, g3⟩ => by
    rcases eas_cases g2 with ⟨-, -, g⟩ | ⟨-, -, rfl, b1, b2, rfl⟩
    · omega
    · refine ⟨_, g1, ⟨b1, b2⟩, fun t => ?_, g3⟩
      unfold OnD
      rw [if_neg (by omega), if_neg (by omega), hk]
      simp
  unfold WouldPost
  obtain ⟨P, hP⟩ : ∃ P : Int → Prop, ∀ t, OnD x y t ↔ P t := ⟨_, fun t => Iff.rfl⟩
  simp only [hP] at HC ⊢
  obtain ⟨ki, ca, mo, dy, nn, wd, of, lo, hi, mvs⟩ := x
  simp only at hk
  subst hk
  try unfold holV at HC
  unfold holV
  simp only at HC o1 o2 ⊢
  obtain ⟨wB, hwB⟩ : ∃ W, w.alloc (.cells #[.int .i64 3, .int .i64 ca, .int .i64 mo, .int .i64 dy, .int .i64 nn, .int .i64 wd, .int .i64 of, .int .i64 lo, .int .i64 hi, .int .i64 mvs] 59) = W := ⟨_, rfl⟩
  have hB : Below w.heap.size w wB := by rw [← hwB]; exact (Below.refl _ _).alloc (Nat.le_refl _) _
  have HB := Lib.hid hB
  have HLT := Lib.hid (show w.heap.size < wB.heap.size by rw [← hwB]; simp)
  have hs : wB.cell? ⟨w.heap.size, 0, none⟩ = some (.int .i64 3) ∧ wB.cell? ⟨w.heap.size, 1, none⟩ = some (.int .i64 ca) ∧ wB.cell? ⟨w.heap.size, 2, none⟩ = some (.int .i64 mo) ∧ wB.cell? ⟨w.heap.size, 3, none⟩ = some (.int .i64 dy) ∧ wB.cell? ⟨w.heap.size, 4, none⟩ = some (.int .i64 nn) ∧ wB.cell? ⟨w.heap.size, 5, none⟩ = some (.int .i64 wd) ∧ wB.cell? ⟨w.heap.size, 6, none⟩ = some (.int .i64 of) ∧ wB.cell? ⟨w.heap.size, 7, none⟩ = some (.int .i64 lo) ∧ wB.cell? ⟨w.heap.size, 8, none⟩ = some (.int .i64 hi) ∧ wB.cell? ⟨w.heap.size, 9, none⟩ = some (.int .i64 mvs) := by rw [← hwB]; simp
  have HS : Hid (∀ w' : World, Below wB.heap.size wB w' → (w'.cell? ⟨w.heap.size, 0, none⟩ = some (.int .i64 3) ∧ w'.cell? ⟨w.heap.size, 1, none⟩ = some (.int .i64 ca) ∧ w'.cell? ⟨w.heap.size, 2, none⟩ = some (.int .i64 mo) ∧ w'.cell? ⟨w.heap.size, 3, none⟩ = some (.int .i64 dy) ∧ w'.cell? ⟨w.heap.size, 4, none⟩ = some (.int .i64 nn) ∧ w'.cell? ⟨w.heap.size, 5, none⟩ = some (.int .i64 wd) ∧ w'.cell? ⟨w.heap.size, 6, none⟩ = some (.int .i64 of) ∧ w'.cell? ⟨w.heap.size, 7, none⟩ = some (.int .i64 lo) ∧ w'.cell? ⟨w.heap.size, 8, none⟩ = some (.int .i64 hi) ∧ w'.cell? ⟨w.heap.size, 9, none⟩ = some (.int .i64 mvs))) := Lib.hid fun w' hb => by
    obtain ⟨s0, s1, s2, s3, s4, s5, s6, s7, s8, s9⟩ := hs
    exact ⟨(hb.cell (p := ⟨w.heap.size, 0, none⟩) HLT.out).trans s0, (hb.cell (p := ⟨w.heap.size, 1, none⟩) HLT.out).trans s1, (hb.cell (p := ⟨w.heap.size, 2, none⟩) HLT.out).trans s2, (hb.cell (p := ⟨w.heap.size, 3, none⟩) HLT.out).trans s3, (hb.cell (p := ⟨w.heap.size, 4, none⟩) HLT.out).trans s4, (hb.cell (p := ⟨w.heap.size, 5, none⟩) HLT.out).trans s5, (hb.cell (p := ⟨w.heap.size, 6, none⟩) HLT.out).trans s6, (hb.cell (p := ⟨w.heap.size, 7, none⟩) HLT.out).trans s7, (hb.cell (p := ⟨w.heap.size, 8, none⟩) HLT.out).trans s8, (hb.cell (p := ⟨w.heap.size, 9, none⟩) HLT.out).trans s9⟩
  obtain ⟨s0, s1, s2, s3, s4, s5, s6, s7, s8, s9⟩ := hs
  clear hB hP
  go_enter Tryz.func40, Tryz.ntmps40
  go_upto_region 5 with (go_at_call 66; (with_reducible refine (HC.out _).mono ?_); rintro e w4 ⟨r, rfl, hrb, hm, hb4⟩; have HM := Lib.hid hm; have HX := Lib.hid hb4; clear hm hb4)
  have q1 : wrap64 (r + of) = r + of := wrap_in (InI.mk (by omega) (by omega))
  have q6 := (HX.out.cell (p := ⟨w.heap.size, 6, none⟩) HLT.out).trans s6
  have HBX := Lib.hid (thenB HB.out HX.out)
  clear s0 s1 s2 s3 s4 s5 s6 s7 s8 s9 hwB
  go_wp2_with fail
  go_ret
  first | exact ⟨_, [r + of], rfl, IntL.one _ HBX.out.size _, by simp, HM.out, HBX.out.alloc HBX.out.size _⟩ | exact ⟨_, rfl, [r + of], IntL.one _ HBX.out.size _, by simp, HM.out, HBX.out.alloc HBX.out.size _⟩
set_option maxRecDepth 100000 in
set_option maxHeartbeats 16000000 in
theorem would_east4 (x : Hol) (y : Int) (w : World) (hk : x.kind = 4) (o1 : -100 ≤ x.off) (o2 : x.off ≤ 100) (h1 : 1 ≤ y) (h2 : y ≤ 9999) :
    Calls Tryz.prog 40 #[holV x, .int .i64 y] w (WouldPost x y w) := by
  have HC : Hid (∀ w0, Calls Tryz.prog 66 #[.int .i64 y, .bool true] w0 fun e w' => ∃ r, e = .returned (.tuple #[.int .i64 r, .int .i64 0]) ∧ (-900000 ≤ r ∧ r ≤ 4000000) ∧ (∀ t, t ∈ [r + x.off] ↔ OnD x y t) ∧ Below w0.heap.size w0 w') := Lib.hid fun w0 => (refEaster_all y true w0).mono fun e w' ⟨r, z, g1, g2, g3⟩ => by
    rcases eas_cases g2 with ⟨-, -, g⟩ | ⟨-, -, rfl, b1, b2, rfl⟩
    · omega
    · refine ⟨_, g1, ⟨b1, b2⟩, fun t => ?_, g3⟩
      unfold OnD
      rw [if_neg (by omega), if_neg (by omega), hk]
      simp
  unfold WouldPost
  obtain ⟨P, hP⟩ : ∃ P : Int → Prop, ∀ t, OnD x y t ↔ P t := ⟨_, fun t => Iff.rfl⟩
  simp only [hP] at HC ⊢
  obtain ⟨ki, ca, mo, dy, nn, wd, of, lo, hi, mvs⟩ := x
  simp only at hk
  subst hk
  try unfold holV at HC
  unfold holV
  simp only at HC o1 o2 ⊢
  obtain ⟨wB, hwB⟩ : ∃ W, w.alloc (.cells #[.int .i64 4, .int .i64 ca, .int .i64 mo, .int .i64 dy, .int .i64 nn, .int .i64 wd, .int .i64 of, .int .i64 lo, .int .i64 hi, .int .i64 mvs] 59) = W := ⟨_, rfl⟩
  have hB : Below w.heap.size w wB := by rw [← hwB]; exact (Below.refl _ _).alloc (Nat.le_refl _) _
  have HB := Lib.hid hB
  have HLT := Lib.hid (show w.heap.size < wB.heap.size by rw [← hwB]; simp)
  have hs : wB.cell? ⟨w.heap.size, 0, none⟩ = some (.int .i64 4) ∧ wB.cell? ⟨w.heap.size, 1, none⟩ = some (.int .i64 ca) ∧ wB.cell? ⟨w.heap.size, 2, none⟩ = some (.int .i64 mo) ∧ wB.cell? ⟨w.heap.size, 3, none⟩ = some (.int .i64 dy) ∧ wB.cell? ⟨w.heap.size, 4, none⟩ = some (.int .i64 nn) ∧ wB.cell? ⟨w.heap.size, 5, none⟩ = some (.int .i64 wd) ∧ wB.cell? ⟨w.heap.size, 6, none⟩ = some (.int .i64 of) ∧ wB.cell? ⟨w.heap.size, 7, none⟩ = some (.int .i64 lo) ∧ wB.cell? ⟨w.heap.size, 8, none⟩ = some (.int .i64 hi) ∧ wB.cell? ⟨w.heap.size, 9, none⟩ = some (.int .i64 mvs) := by rw [← hwB]; simp
  have HS : Hid (∀ w' : World, Below wB.heap.size wB w' → (w'.cell? ⟨w.heap.size, 0, none⟩ = some (.int .i64 4) ∧ w'.cell? ⟨w.heap.size, 1, none⟩ = some (.int .i64 ca) ∧ w'.cell? ⟨w.heap.size, 2, none⟩ = some (.int .i64 mo) ∧ w'.cell? ⟨w.heap.size, 3, none⟩ = some (.int .i64 dy) ∧ w'.cell? ⟨w.heap.size, 4, none⟩ = some (.int .i64 nn) ∧ w'.cell? ⟨w.heap.size, 5, none⟩ = some (.int .i64 wd) ∧ w'.cell? ⟨w.heap.size, 6, none⟩ = some (.int .i64 of) ∧ w'.cell? ⟨w.heap.size, 7, none⟩ = some (.int .i64 lo) ∧ w'.cell? ⟨w.heap.size, 8, none⟩ = some (.int .i64 hi) ∧ w'.cell? ⟨w.heap.size, 9, none⟩ = some (.int .i64 mvs))) := Lib.hid fun w' hb => by
    obtain ⟨s0, s1, s2, s3, s4, s5, s6, s7, s8, s9⟩ := hs
    exact ⟨(hb.cell (p := ⟨w.heap.size, 0, none⟩) HLT.out).trans s0, (hb.cell (p := ⟨w.heap.size, 1, none⟩) HLT.out).trans s1, (hb.cell (p := ⟨w.heap.size, 2, none⟩) HLT.out).trans s2, (hb.cell (p := ⟨w.heap.size, 3, none⟩) HLT.out).trans s3, (hb.cell (p := ⟨w.heap.size, 4, none⟩) HLT.out).trans s4, (hb.cell (p := ⟨w.heap.size, 5, none⟩) HLT.out).trans s5, (hb.cell (p := ⟨w.heap.size, 6, none⟩) HLT.out).trans s6, (hb.cell (p := ⟨w.heap.size, 7, none⟩) HLT.out).trans s7, (hb.cell (p := ⟨w.heap.size, 8, none⟩) HLT.out).trans s8, (hb.cell (p := ⟨w.heap.size, 9, none⟩) HLT.out).trans s9⟩
  obtain ⟨s0, s1, s2, s3, s4, s5, s6, s7, s8, s9⟩ := hs
  clear hB hP
  go_enter Tryz.func40, Tryz.ntmps40
  go_upto_region 5 with (go_at_call 66; (with_reducible refine (HC.out _).mono ?_); rintro e w4 ⟨r, rfl, hrb, hm, hb4⟩; have HM := Lib.hid hm; have HX := Lib.hid hb4; clear hm hb4)
  have q1 : wrap64 (r + of) = r + of := wrap_in (InI.mk (by omega) (by omega))
  have q6 := (HX.out.cell (p := ⟨w.heap.size, 6, none⟩) HLT.out).trans s6
  have HBX := Lib.hid (thenB HB.out HX.out)
  clear s0 s1 s2 s3 s4 s5 s6 s7 s8 s9 hwB
  go_wp2_with fail
  go_ret
  first | exact ⟨_, [r + of], rfl, IntL.one _ HBX.out.size _, by simp, HM.out, HBX.out.alloc HBX.out.size _⟩ | exact ⟨_, rfl, [r + of], IntL.one _ HBX.out.size _, by simp, HM.out, HBX.out.alloc HBX.out.size _⟩
end Go.Proofs.YtbgcccfgcdkmdaaGreatDoor
