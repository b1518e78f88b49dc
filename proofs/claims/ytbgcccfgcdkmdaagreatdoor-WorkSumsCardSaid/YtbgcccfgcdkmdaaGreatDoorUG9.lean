/- Contracts of the shelf, laid at this program: printed by lay.py out of the text that the kit's own command hands to Lean. slices.Sort and slices.Compact over a list of the call's own. The holidays of a year: the program's. -/
import Derived.Shelf.Lay
import Derived.Shelf.SlGeneric
import Derived.Shelf.Sort.Plain
import Derived.Shelf.Slices.In.SortNone
import Derived.Shelf.Slices.CompactI
import Derived.Test.YtbgcccfgcdkmdaaGreatDoorProg
import Derived.Test.YtbgcccfgcdkmdaaGreatDoorWrkE
import Derived.Lib.RowBridge
import Derived.Test.YtbgcccfgcdkmdaaGreatDoorWrkC
import Derived.Test.YtbgcccfgcdkmdaaGreatDoorWrkH
namespace Go.Proofs.YtbgcccfgcdkmdaaGreatDoor
open Go.Shelf
def laySo_ren : Go.Shelf.Ren := ⟨fun | 189 => 60 | 125 => 84 | 257 => 83 | 128 => 107 | 129 => 108 | 294 => 98 | 295 => 99 | 296 => 100 | 297 => 101 | 298 => 102 | 299 => 103 | 216 => 104 | 300 => 105 | 301 => 106 | 328 => 112 | 329 => 113 | 330 => 114 | 331 => 115 | 332 => 116 | 215 => 117 | 343 => 145 | n => n, fun | 28 => 27 | 3 => 3 | 46 => 132 | 0 => 0 | 51 => 168 | 53 => 170 | 4 => 4 | 183 => 160 | 182 => 159 | 131 => 165 | 5 => 5 | 9 => 9 | 218 => 174 | 222 => 178 | 228 => 183 | 229 => 124 | 20 => 20 | n => n, fun | n => n⟩
theorem laySo : Go.Proofs.Lays.n189 Tryz.prog laySo_ren := {
  mixed := (by kernel_rfl),
  f125 := Tryz.func84.trans (congrArg some (by kernel_rfl)),
  f128 := Tryz.func107.trans (congrArg some (by kernel_rfl)),
  f129 := Tryz.func108.trans (congrArg some (by kernel_rfl)),
  f189 := Tryz.func60.trans (congrArg some (by kernel_rfl)),
  f215 := Tryz.func117.trans (congrArg some (by kernel_rfl)),
  f216 := Tryz.func104.trans (congrArg some (by kernel_rfl)),
  f257 := Tryz.func83.trans (congrArg some (by kernel_rfl)),
  f294 := Tryz.func98.trans (congrArg some (by kernel_rfl)),
  f295 := Tryz.func99.trans (congrArg some (by kernel_rfl)),
  f296 := Tryz.func100.trans (congrArg some (by kernel_rfl)),
  f297 := Tryz.func101.trans (congrArg some (by kernel_rfl)),
  f298 := Tryz.func102.trans (congrArg some (by kernel_rfl)),
  f299 := Tryz.func103.trans (congrArg some (by kernel_rfl)),
  f300 := Tryz.func105.trans (congrArg some (by kernel_rfl)),
  f301 := Tryz.func106.trans (congrArg some (by kernel_rfl)),
  f328 := Tryz.func112.trans (congrArg some (by kernel_rfl)),
  f329 := Tryz.func113.trans (congrArg some (by kernel_rfl)),
  f330 := Tryz.func114.trans (congrArg some (by kernel_rfl)),
  f331 := Tryz.func115.trans (congrArg some (by kernel_rfl)),
  f332 := Tryz.func116.trans (congrArg some (by kernel_rfl)),
  f343 := Tryz.func145.trans (congrArg some (by kernel_rfl)),
  t0 := Tryz.underlying0,
  a0 := Tryz.isAgg0,
  z0 := Tryz.sizeOf0,
  v0 := Tryz.zeroValue0,
  t3 := Tryz.underlying3,
  a3 := Tryz.isAgg3,
  z3 := Tryz.sizeOf3,
  v3 := Tryz.zeroValue3,
  t4 := Tryz.underlying4,
  a4 := Tryz.isAgg4,
  z4 := Tryz.sizeOf4,
  v4 := Tryz.zeroValue4,
  t5 := Tryz.underlying5,
  a5 := Tryz.isAgg5,
  z5 := Tryz.sizeOf5,
  v5 := Tryz.zeroValue5,
  t9 := Tryz.underlying9,
  a9 := Tryz.isAgg9,
  z9 := Tryz.sizeOf9,
  v9 := Tryz.zeroValue9,
  t28 := Tryz.underlying27,
  a28 := Tryz.isAgg27,
  z28 := Tryz.sizeOf27,
  v28 := Tryz.zeroValue27,
  t46 := Tryz.underlying132,
  a46 := Tryz.isAgg132,
  z46 := Tryz.sizeOf132,
  v46 := Tryz.zeroValue132,
  t51 := Tryz.underlying168,
  a51 := Tryz.isAgg168,
  z51 := Tryz.sizeOf168,
  v51 := Tryz.zeroValue168,
  t53 := Tryz.underlying170,
  a53 := Tryz.isAgg170,
  z53 := Tryz.sizeOf170,
  v53 := Tryz.zeroValue170,
  t131 := Tryz.underlying165,
  a131 := Tryz.isAgg165,
  z131 := Tryz.sizeOf165,
  v131 := Tryz.zeroValue165,
  t182 := Tryz.underlying159,
  a182 := Tryz.isAgg159,
  z182 := Tryz.sizeOf159,
  v182 := Tryz.zeroValue159,
  t183 := Tryz.underlying160,
  a183 := Tryz.isAgg160,
  z183 := Tryz.sizeOf160,
  v183 := Tryz.zeroValue160,
  t218 := Tryz.underlying174,
  a218 := Tryz.isAgg174,
  z218 := Tryz.sizeOf174,
  v218 := Tryz.zeroValue174,
  t222 := Tryz.underlying178,
  a222 := Tryz.isAgg178,
  z222 := Tryz.sizeOf178,
  v222 := Tryz.zeroValue178,
  t228 := Tryz.underlying183,
  a228 := Tryz.isAgg183,
  z228 := Tryz.sizeOf183,
  v228 := Tryz.zeroValue183,
  t229 := Tryz.underlying124,
  a229 := Tryz.isAgg124,
  z229 := Tryz.sizeOf124,
  v229 := Tryz.zeroValue124 }
def layCo_ren : Go.Shelf.Ren := ⟨fun | 20 => 61 | n => n, fun | 22 => 27 | 3 => 3 | 4 => 4 | 0 => 0 | 20 => 20 | n => n, fun | n => n⟩
theorem layCo : Go.Proofs.Lays2.n20 Tryz.prog layCo_ren := {
  mixed := (by kernel_rfl),
  f20 := Tryz.func61.trans (congrArg some (by kernel_rfl)),
  t0 := Tryz.underlying0,
  a0 := Tryz.isAgg0,
  z0 := Tryz.sizeOf0,
  v0 := Tryz.zeroValue0,
  t3 := Tryz.underlying3,
  a3 := Tryz.isAgg3,
  z3 := Tryz.sizeOf3,
  v3 := Tryz.zeroValue3,
  t4 := Tryz.underlying4,
  a4 := Tryz.isAgg4,
  z4 := Tryz.sizeOf4,
  v4 := Tryz.zeroValue4,
  t22 := Tryz.underlying27,
  a22 := Tryz.isAgg27,
  z22 := Tryz.sizeOf27,
  v22 := Tryz.zeroValue27,
  i3 := (by kernel_rfl) }
end Go.Proofs.YtbgcccfgcdkmdaaGreatDoor
namespace Go.Proofs.YtbgcccfgcdkmdaaGreatDoor
open Go.RowKit Wrk Go.Sort
theorem own_prefix {w : World} {base g n cap m : Nat} {e : TypeId} {xs : List Value} (h : w.ownsRow base e 1 (.slice (some ⟨g, 0, none⟩) n cap) n xs) (hm : m ≤ n) : w.ownsRow base e 1 (.slice (some ⟨g, 0, none⟩) m cap) m (xs.take m) := by
  obtain ⟨h1, h2⟩ := h
  rcases h2 with ⟨h2, -⟩ | ⟨g', cap', cur, h3, h4, h5, h6, h7, h8, h9⟩
  · cases h2
  · cases h3
    refine ⟨by rw [List.length_take]; omega, .inr ⟨g, cap, cur, rfl, h4, h5, by omega, h7, h8, ?_⟩⟩
    rw [← h9, List.take_take]
    congr 1
    omega
set_option maxHeartbeats 4000000 in
theorem sort_any (v : Value) (l : List Int) (base : Nat) (w : World) (h : IntL w base v l) (hl : l.length ≤ 1000000) :
    Calls Tryz.prog 60 #[v] w fun e w' => e = .returned (.tuple #[]) ∧ IntL w' base v (l.mergeSort fun x y => decide (x ≤ y)) ∧ w.grownBy w' v.ownBlock := by
  unfold IntL at h
  rcases h.2 with ⟨rfl, h0⟩ | ⟨g, cap, cur, rfl, hb, hg, hn, hcm, hcs, htk⟩
  · have hl0 : l = [] := List.eq_nil_of_length_eq_zero h0
    subst hl0
    refine (Any.slices_Sort_int_none laySo none 0 w).mono ?_
    rintro e w' ⟨rfl, rfl⟩
    exact ⟨rfl, by simpa using IntL.nil _ _, ⟨rfl, rfl, rfl, Nat.le_refl _, fun _ _ _ => rfl⟩⟩
  · have hH := holds_of_blockI (ss := l) hg (by rw [Nat.mul_one] at htk; exact htk)
    have hgl : g < w.heap.size := (Array.getElem?_eq_some_iff.1 hg).1
    refine (Any.slices_Sort_int laySo g 0 cap l w hH hgl (by omega)).mono ?_
    rintro e w' ⟨rfl, n, os, rfl⟩
    have hlen : (l.mergeSort fun x y => decide (x ≤ y)).length = l.length := List.length_mergeSort l
    refine ⟨rfl, ?_, grownBy_sortedI _⟩
    unfold IntL
    rw [hlen]
    exact ownsRow_sortedI (ss := l) hlen hb hg hn hcm hcs
set_option maxHeartbeats 4000000 in
theorem compact_any (v : Value) (l : List Int) (base : Nat) (w : World) (h : IntL w base v l) (hl : l.length ≤ 1000000) :
    Calls Tryz.prog 61 #[v] w fun e w' => ∃ v', e = .returned v' ∧ IntL w' base v' (Lib.compact l) ∧ w.grownBy w' v.ownBlock := by
  unfold IntL at h
  rcases h.2 with ⟨rfl, h0⟩ | ⟨g, cap, cur, rfl, hb, hg, hn, hcm, hcs, htk⟩
  · have hl0 : l = [] := List.eq_nil_of_length_eq_zero h0
    subst hl0
    refine (Any.slices_Compact_int_empty layCo none 0 w).mono ?_
    rintro e w' ⟨rfl, rfl⟩
    exact ⟨_, rfl, IntL.nil _ _, ⟨rfl, rfl, rfl, Nat.le_refl _, fun _ _ _ => rfl⟩⟩
  · have hH := holds_of_blockI (ss := l) hg (by rw [Nat.mul_one] at htk; exact htk)
    refine (Any.slices_Compact_int layCo g 0 cap l w hH (by omega) hn).mono ?_
    rintro e w' ⟨rfl, q, rfl⟩
    obtain ⟨c, hc⟩ : ∃ c, Lib.compact l = c := ⟨_, rfl⟩
    have hcl : c.length ≤ l.length := by rw [← hc]; exact Lib.compact_length_le l
    rw [hc]
    have hlen : (c ++ List.replicate (l.length - c.length) 0).length = l.length := by simp; omega
    have h1 := ownsRow_sortedI (ss := l) (os := #[]) (n := q) (w := w) (e := 3) (base := base) hlen hb hg hn hcm hcs
    have h2 := own_prefix h1 hcl
    rw [grow_empty] at h2
    refine ⟨_, rfl, ?_, ?_⟩
    · unfold IntL intV
      have e : (List.map (Value.int .i64) (c ++ List.replicate (l.length - c.length) 0)).take c.length = List.map (Value.int .i64) c := by rw [List.map_append, List.take_left' (by simp)]
      rw [e] at h2
      exact h2
    · have h3 := grownBy_sortedI (w := w) (g := g) (n := q) (os := #[]) (c ++ List.replicate (l.length - c.length) 0).toArray
      rw [grow_empty] at h3
      exact h3
end Go.Proofs.YtbgcccfgcdkmdaaGreatDoor
namespace Go.Proofs.YtbgcccfgcdkmdaaGreatDoor
open Go.RowKit Wrk
namespace Wrk
theorem frm_all {f : Nat → Int} {n : Nat} : ∀ (m k : Nat), n - k ≤ m → frm f n k = 0 → ∀ i, k ≤ i → i < n → f i = 0
  | 0, k, hm, _, i, h1, h2 => by omega
  | m + 1, k, hm, h, i, h1, h2 => by
    have hk : k < n := by omega
    by_cases h0 : f k = 0
    · rw [frm_go hk h0] at h
      by_cases hi : i = k
      · rw [hi]; exact h0
      · exact frm_all m (k + 1) (by omega) h i (by omega) h2
    · rw [frm_hit hk h0] at h
      exact absurd h h0
theorem chk_ok {H : Hrs} (h : chk H = 0) : H.hols.length ≤ 60 ∧ ∀ i, i < H.hols.length → hE (H.hols.getD i hol0) = 0 := by
  unfold chk at h
  split at h
  · rename_i g; exact absurd h g
  · unfold hosE at h
    split at h
    · cases h
    · exact ⟨by omega, fun i hi => frm_all (H.hols.length) 0 (by omega) h i (Nat.zero_le _) hi⟩
theorem OnD_bd {x : Hol} {y d : Int} (hx : hE x = 0) (h1 : 1 ≤ y) (h2 : y ≤ 9999) (h : OnD x y d) : -1000000 ≤ d ∧ d ≤ 4100000 := by
  have hb := y1_bd y h1 (by omega)
  rcases hE_facts hx with ⟨hk, c1, c2⟩ | ⟨hk, m1, m2, w1, w2, n1, n2⟩ | ⟨hk, o1, o2⟩ | ⟨hk, o1, o2⟩
  · unfold OnD at h
    rw [if_pos hk] at h
    omega
  · obtain ⟨-, l1, l2, o1, o2, -⟩ := month_facts y x.month h1 h2 m1 m2
    have := (nth_on (y := y) (d := d) hk w1 w2).1 h
    omega
  all_goals
    unfold OnD at h
    rw [if_neg (by omega), if_neg (by omega)] at h
    obtain ⟨e, he⟩ : ∃ e, decide (x.kind = 4) = e := ⟨_, rfl⟩
    rw [he] at h
    have f1 := Dm.full_bd e y h1 (by omega)
    have f2 := Dm.full_small e y h1 (by omega)
    have f3 := Dm.ep_bd e y
    have f4 : Dm.full e y = Dm.dayOf (Dm.calE e) y 4 19 - Dm.ep e y := rfl
    have f5 := Dm.sunday_bd (Dm.full e y)
    omega
/-- The first n holidays give a day. -/
def Gives (L : List Hol) (y : Int) (n : Nat) (t : Int) : Prop := ∃ j, j < n ∧ (L.getD j hol0).lo ≤ y ∧ y ≤ (L.getD j hol0).hi ∧ ∃ d, OnD (L.getD j hol0) y d ∧ t = mv (L.getD j hol0).moves d
theorem gives_all (L : List Hol) (y t : Int) : Gives L y L.length t ↔ HolD L y t := by
  constructor
  · rintro ⟨j, h1, h2⟩
    exact ⟨_, by rw [List.getD_eq_getElem?_getD, List.getElem?_eq_getElem h1]; exact List.getElem_mem h1, h2⟩
  · rintro ⟨x, hx, h2⟩
    obtain ⟨j, hj, rfl⟩ := List.getElem_of_mem hx
    refine ⟨j, hj, ?_⟩
    have e : L.getD j hol0 = L[j] := by rw [List.getD_eq_getElem?_getD, List.getElem?_eq_getElem hj]; rfl
    rw [e]; exact h2
theorem gives_skip {L : List Hol} {y : Int} {n : Nat} (h : ¬ ((L.getD n hol0).lo ≤ y ∧ y ≤ (L.getD n hol0).hi)) (t : Int) : Gives L y (n + 1) t ↔ Gives L y n t := by
  constructor
  · rintro ⟨j, h1, h2, h3, h4⟩
    by_cases hj : j = n
    · subst hj; exact absurd ⟨h2, h3⟩ h
    · exact ⟨j, by omega, h2, h3, h4⟩
  · rintro ⟨j, h1, h2⟩
    exact ⟨j, by omega, h2⟩
theorem gives_take {L : List Hol} {y : Int} {n : Nat} (h1 : (L.getD n hol0).lo ≤ y) (h2 : y ≤ (L.getD n hol0).hi) {acc ds : List Int} (ha : ∀ t, t ∈ acc ↔ Gives L y n t) (hd : ∀ t, t ∈ ds ↔ OnD (L.getD n hol0) y t) (t : Int) : t ∈ acc ++ ds.map (mv (L.getD n hol0).moves) ↔ Gives L y (n + 1) t := by
  rw [List.mem_append, ha, List.mem_map]
  constructor
  · rintro (⟨j, g1, g2⟩ | ⟨d, g1, g2⟩)
    · exact ⟨j, by omega, g2⟩
    · exact ⟨n, by omega, h1, h2, d, (hd d).1 g1, g2.symm⟩
  · rintro ⟨j, g1, g2, g3, d, g4, g5⟩
    by_cases hj : j = n
    · subst hj; exact .inr ⟨d, (hd d).2 g4, g5.symm⟩
    · exact .inl ⟨j, by omega, g2, g3, d, g4, g5⟩
end Wrk
set_option maxRecDepth 100000 in
set_option maxHeartbeats 16000000 in
theorem holidays_any (B : Nat) (H : Hrs) (s : Nat → Value) (vh : Value) (y : Int) (w : World) (hr : RomanT w) (hR : HrsR B w s vh H) (hB : B ≤ w.heap.size) (hc : chk H = 0) (h1 : 1 ≤ y) (h2 : y ≤ 9999) : Calls Tryz.prog 38 #[hoursV s vh, .int .i64 y] w fun e w' => ∃ v l, e = .returned v ∧ IntL w' w.heap.size v l ∧ Rises l ∧ (∀ t, t ∈ l ↔ HolD H.hols y t) ∧ Below w.heap.size w w' := by
  obtain ⟨hle, hok⟩ := chk_ok hc
  have HOK := Lib.hid hok
  obtain ⟨i0, hi0, hz0, hz1, hz2⟩ := info_parts Tryz.info3
  unfold hoursV
  obtain ⟨wB, hwB⟩ : ∃ W, w.alloc (.cells #[s 0, s 1, s 2, s 3, s 4, s 5, s 6, vh] 26) = W := ⟨_, rfl⟩
  have hb0 : Below w.heap.size w wB := by rw [← hwB]; exact (Below.refl _ _).alloc (Nat.le_refl _) _
  have HB0 := Lib.hid hb0
  have HRB := Lib.hid (RomanT.call hr hb0)
  have HH := Lib.hid (hR.call (hb0.mono hB))
  have HBB := Lib.hid (show B ≤ wB.heap.size from Nat.le_trans hB hb0.size)
  have HLT := Lib.hid (show w.heap.size < wB.heap.size by rw [← hwB]; simp)
  obtain ⟨oh, ch, rfl⟩ := hR.hols.form
  obtain ⟨nh, hnh⟩ : ∃ n, H.hols.length = n := ⟨_, rfl⟩
  have HNH := Lib.hid hnh
  have HAL := Lib.hid fun t => gives_all H.hols y t
  rw [hnh] at HH hwB hle HOK HAL ⊢
  have f7 : wB.cell? ⟨w.heap.size, 7, none⟩ = some (.slice oh nh ch) := by rw [← hwB]; simp
  clear hb0 hr hR hB hnh hok hc
  go_enter Tryz.func38, Tryz.ntmps38
  go_upto_region 1 with fail
  clear hwB
  go_wp2_with fail
  go_loopw [5, 13] (fun v c wr => ∃ (ob : Option Addr) (n cap i : Nat), v = .slice ob n cap ∧ c = .int .i64 (i : Int) ∧ i ≤ nh ∧ n ≤ 3 * i ∧ Hid (∃ acc, IntL wr wB.heap.size (.slice ob n cap) acc ∧ ∀ t, t ∈ acc ↔ Gives H.hols y i t) ∧ Hid (Below wB.heap.size wB wr)) (fun _ c _ => nh - (intOf c).toNat)
  case atStart => exact ⟨none, 0, 0, 0, rfl, by simp, by omega, by omega, Lib.hid ⟨[], IntL.nil _ _, fun t => by simp [Gives]⟩, Lib.hid (Below.refl _ _)⟩
  case round =>
    obtain ⟨ob, n, cap, i, rfl, rfl, hi, hn, HA, HB⟩ := hrel
    obtain ⟨wo, hwo⟩ : ∃ wo : World, wo = wr := ⟨_, rfl⟩
    subst hwo
    clear f7
    by_cases hik : i < nh
    · obtain ⟨a, rfl, hab, c0, c1, c2, c3, c4, c5, c6, c7, c8, c9⟩ := (HH.out.hols.call (hBW HBB.out HB.out)).at (i := i) (by rw [HNH.out]; omega)
      have k1 : (0 : Int) ≤ (i : Int) := by omega
      have k2 : (i : Int) < (nh : Int) := by omega
      have HX0 := Lib.hid (HOK.out i hik)
      have HSK := Lib.hid fun h t => gives_skip (L := H.hols) (y := y) (n := i) h t
      have HTK := Lib.hid fun h1 h2 acc ds ha hd t => gives_take (L := H.hols) (y := y) (n := i) h1 h2 (acc := acc) (ds := ds) ha hd t
      obtain ⟨x, hx⟩ : ∃ x, H.hols.getD i hol0 = x := ⟨_, rfl⟩
      rw [hx] at c0 c1 c2 c3 c4 c5 c6 c7 c8 c9 HX0
      simp only [hx] at HSK HTK
      have CO := Lib.hid fun w0 h => on_any x y w0 h HX0.out h1 h2
      have HBD := Lib.hid fun d h => OnD_bd (x := x) (y := y) (d := d) HX0.out h1 h2 h
      obtain ⟨P, hP⟩ : ∃ P : Int → Prop, ∀ t, OnD x y t ↔ P t := ⟨_, fun t => Iff.rfl⟩
      unfold OnPost at CO
      simp only [hP] at CO HBD HTK
      clear hP hx HX0
      obtain ⟨ki, ca, mo, dy, nn, wd, of, lo, hi', mvs⟩ := x
      unfold holV at CO
      simp only at c0 c1 c2 c3 c4 c5 c6 c7 c8 c9 CO HSK HTK
      obtain ⟨z7, hz7⟩ : ∃ z, wo.heap.size = z := ⟨_, rfl⟩
      go_upto_region 5 with fail
      obtain ⟨wA, hwA⟩ : ∃ W, wo.alloc (.cells #[.int .i64 ki, .int .i64 ca, .int .i64 mo, .int .i64 dy, .int .i64 nn, .int .i64 wd, .int .i64 of, .int .i64 lo, .int .i64 hi', .int .i64 mvs] 59) = W := ⟨_, rfl⟩
      have hA : Below wo.heap.size wo wA := by rw [← hwA]; exact (Below.refl _ _).alloc (Nat.le_refl _) _
      have HWA := Lib.hid (thenB HB.out hA)
      have HRA := Lib.hid (RomanT.call HRB.out HWA.out)
      have HZA := Lib.hid (show wA.heap.size = z7 + 1 by rw [← hwA, ← hz7]; simp)
      have a0 : wA.cell? ⟨z7, 0, none⟩ = some (.int .i64 ki) := by rw [← hwA, ← hz7]; simp
      have a1 : wA.cell? ⟨z7, 1, none⟩ = some (.int .i64 ca) := by rw [← hwA, ← hz7]; simp
      have a2 : wA.cell? ⟨z7, 2, none⟩ = some (.int .i64 mo) := by rw [← hwA, ← hz7]; simp
      have a3 : wA.cell? ⟨z7, 3, none⟩ = some (.int .i64 dy) := by rw [← hwA, ← hz7]; simp
      have a4 : wA.cell? ⟨z7, 4, none⟩ = some (.int .i64 nn) := by rw [← hwA, ← hz7]; simp
      have a5 : wA.cell? ⟨z7, 5, none⟩ = some (.int .i64 wd) := by rw [← hwA, ← hz7]; simp
      have a6 : wA.cell? ⟨z7, 6, none⟩ = some (.int .i64 of) := by rw [← hwA, ← hz7]; simp
      have a7 : wA.cell? ⟨z7, 7, none⟩ = some (.int .i64 lo) := by rw [← hwA, ← hz7]; simp
      have a8 : wA.cell? ⟨z7, 8, none⟩ = some (.int .i64 hi') := by rw [← hwA, ← hz7]; simp
      have a9 : wA.cell? ⟨z7, 9, none⟩ = some (.int .i64 mvs) := by rw [← hwA, ← hz7]; simp
      have HA2 : Hid (∃ acc, IntL wA wB.heap.size (.slice ob n cap) acc ∧ (∀ t, t ∈ acc ↔ Gives H.hols y i t) ∧ ∀ q, (Value.slice ob n cap).ownBlock = some q → q < z7) := Lib.hid (by
        obtain ⟨acc, g1, g2⟩ := HA.out
        exact ⟨acc, g1.call hA, g2, fun q hq => by rw [← hz7]; exact (g1.lt q hq).2⟩)
      rw [hwA]
      clear hA hwA c0 c1 c2 c3 c4 c5 c6 c7 c8 c9 hz7
      by_cases hlo : lo ≤ y ∧ y ≤ hi'
      · have l1 : ¬ y < lo := by omega
        have l2 : ¬ hi' < y := by omega
        have HLO := Lib.hid hlo
        clear hlo
        go_wp2_with (go_at_call 58; (with_reducible refine (CO.out _ HRA.out).mono ?_); rintro e w4 ⟨v, ds, rfl, hv, hl3, hmem, hb4⟩; obtain ⟨od, cd, hvf⟩ := hv.form; subst hvf; have HV := Lib.hid hv; have HM := Lib.hid hmem; have HB4 := Lib.hid hb4; obtain ⟨nd, hnd⟩ : ∃ n, ds.length = n := ⟨_, rfl⟩; rw [hnd] at HV hl3 ⊢; have HND := Lib.hid hnd; clear hv hmem hb4 hnd)
        obtain ⟨acc, hacc, hmem, hown⟩ := HA2.out
        have HBW4 := Lib.hid (thenB HWA.out HB4.out)
        have HACC := Lib.hid (hacc.call HB4.out)
        have HMEM := Lib.hid hmem
        have HOWN := Lib.hid hown
        have b9 := (HB4.out.cell (p := ⟨z7, 9, none⟩) (by rw [HZA.out]; exact Nat.lt_succ_self _)).trans a9
        have HB9 := Lib.hid b9
        have HS4 := Lib.hid (show z7 + 1 ≤ w4.heap.size by rw [← HZA.out]; exact HB4.out.size)
        obtain ⟨m0, hm0⟩ : ∃ m, acc.length = m := ⟨_, rfl⟩
        have hnm : n = m0 := by
          obtain ⟨oa, c2, e⟩ := hacc.form
          injection e with _ e _
          rw [e, hm0]
        subst hnm
        have HM0 := Lib.hid hm0
        clear hacc hmem hown b9 a0 a1 a2 a3 a4 a5 a6 a7 a8 a9 l1 l2 hm0 HA2
        go_loopw [5, 31] (fun v c wr => ∃ (ob2 : Option Addr) (cap2 k : Nat), v = .slice ob2 (n + k) cap2 ∧ c = .int .i64 (k : Int) ∧ k ≤ nd ∧ Hid (IntL wr wB.heap.size (.slice ob2 (n + k) cap2) (acc ++ (ds.take k).map (mv mvs))) ∧ Hid (Below wB.heap.size wB wr) ∧ Hid (∀ q, (Value.slice ob2 (n + k) cap2).ownBlock = some q → q < z7 ∨ w4.heap.size ≤ q) ∧ Hid (w4.heap.size ≤ wr.heap.size ∧ ∀ q, z7 ≤ q → q < w4.heap.size → wr.heap[q]? = w4.heap[q]?)) (fun _ c _ => nd - (intOf c).toNat)
        case atStart => exact ⟨ob, cap, 0, rfl, by simp, by omega, Lib.hid (by simpa using HACC.out), HBW4, Lib.hid (fun q hq => .inl (HOWN.out q hq)), Lib.hid ⟨Nat.le_refl _, fun _ _ _ => rfl⟩⟩
        case round =>
          obtain ⟨ob2, cap2, k, rfl, rfl, hk, HS, HBI, HO, HE⟩ := hrel
          by_cases hkd : k < nd
          · obtain ⟨gd, rfl, hg1, hg2, hg3, -⟩ := HV.out.at (k := k) (by rw [HND.out]; exact hkd)
            have e1 := (World.cell?_of_block (a := ⟨gd, k, none⟩) (HE.out.2 gd (by rw [HZA.out] at hg1; exact Nat.le_of_succ_le hg1) hg2)).trans hg3
            have e2 := (World.cell?_of_block (a := ⟨z7, 9, none⟩) (HE.out.2 z7 (Nat.le_refl _) HS4.out)).trans HB9.out
            have hdm : ds.getD k 0 ∈ ds := by
              rw [List.getD_eq_getElem?_getD, List.getElem?_eq_getElem (by rw [HND.out]; exact hkd)]
              exact List.getElem_mem _
            have hbd := HBD.out _ ((HM.out _).1 hdm)
            have HT : Hid ((ds.take (k + 1)).map (mv mvs) = (ds.take k).map (mv mvs) ++ [mv mvs (ds.getD k 0)]) := Lib.hid (by
              rw [List.take_succ_eq_append_getElem (by rw [HND.out]; exact hkd), List.map_append, List.getD_eq_getElem?_getD, List.getElem?_eq_getElem (by rw [HND.out]; exact hkd)]
              rfl)
            obtain ⟨d, hd⟩ : ∃ d, ds.getD k 0 = d := ⟨_, rfl⟩
            rw [hd] at e1 hbd HT
            have CM := Lib.hid fun w0 => moved_any d mvs w0 (by omega) (by omega)
            obtain ⟨r, hrr⟩ : ∃ r, mv mvs d = r := ⟨_, rfl⟩
            rw [hrr] at CM HT
            obtain ⟨LL, hLL⟩ : ∃ LL, (ds.take k).map (mv mvs) = LL := ⟨_, rfl⟩
            rw [hLL] at HT HS
            have hlen : n + k = (acc ++ LL).length := by
              obtain ⟨oa, c2, e⟩ := HS.out.form
              injection e
            have HLEN := Lib.hid hlen
            have k3 : (0 : Int) ≤ (k : Int) := by omega
            have k4 : (k : Int) < (nd : Int) := by omega
            clear hg1 hg2 hg3 hdm hbd hd hrr hLL hlen
            go_wp2_with (first
              | (go_at_call 59; (with_reducible refine (CM.out _).mono ?_); rintro e w5 ⟨rfl, rfl⟩)
              | (at_builtin; refine wpList_append_lies _ rfl (.tmp 35) (.tmp 40) 27 rfl wB.heap.size 3 i0 (.int .i64 0) 1 8 Tryz.underlying27 hi0 hz0 hz1 hz2 rfl (by decide) _ (n + k) (intV (acc ++ LL)) rfl ((show World.ownsRow _ _ _ _ _ (n + k) _ by have h := HS.out; unfold IntL at h; rw [← HLEN.out] at h; exact h).alloc _) _ 1 1 [.int .i64 r] rfl rfl (cells_atI (by simp) _ _) (by simp [Value.oneCell']) (by decide) (by unfold maxLen; omega) (by omega) (by have h5 := HBI.out.size; simp; omega) (wr.heap.size + 1) (by simp) ?_; intro g5 c5 w5 hown hgrow hat hlt5))
            have HB5 := Lib.hid ((HBI.out.alloc HBI.out.size _).grown hgrow (by have h5 := HBI.out.size; simp; omega) (fun q hq => (HS.out.lt q hq).1))
            have HS5 : Hid (IntL w5 wB.heap.size (.slice (some ⟨g5, 0, none⟩) (n + (k + 1)) c5) (acc ++ (ds.take (k + 1)).map (mv mvs))) := Lib.hid (by
              unfold IntL
              rw [HT.out, ← List.append_assoc, List.length_append, ← HLEN.out, intV_snoc]
              exact hown)
            have HO5 : Hid (∀ q, (Value.slice (some ⟨g5, 0, none⟩) (n + (k + 1)) c5).ownBlock = some q → q < z7 ∨ w4.heap.size ≤ q) := Lib.hid (fun q hq => by
              have e : g5 = q := by simpa [Value.ownBlock] using hq
              subst e
              rcases hat with h | h
              · exact HO.out _ h
              · right; rw [h]; have := HE.out.1; omega)
            have HE5 : Hid (w4.heap.size ≤ w5.heap.size ∧ ∀ q, z7 ≤ q → q < w4.heap.size → w5.heap[q]? = w4.heap[q]?) := Lib.hid (by
              have h6 := hgrow.size
              have h7 := HE.out.1
              simp at h6
              refine ⟨by omega, fun q q1 q2 => ?_⟩
              rw [hgrow.block q (by simp; omega) (fun e => by rcases HO.out q e.symm with h | h <;> omega), heap_alloc_old _ _ (show q < wr.heap.size by omega)]
              exact HE.out.2 q q1 q2)
            clear hown hgrow hat hlt5 e1 e2
            go_roundw
            case rel => exact ⟨some ⟨g5, 0, none⟩, c5, k + 1, rfl, by go_num, by omega, HS5, HB5, HO5, HE5⟩
            case measure => simp [intOf]; omega
          · have hkn : k = nd := by omega
            subst hkn
            have HG : Hid (∃ acc', IntL wr wB.heap.size (.slice ob2 (n + k) cap2) acc' ∧ ∀ t, t ∈ acc' ↔ Gives H.hols y (i + 1) t) := Lib.hid ⟨_, HS.out, fun t => by rw [List.take_of_length_le (by rw [HND.out]; exact Nat.le_refl _)]; exact HTK.out HLO.out.1 HLO.out.2 acc ds HMEM.out HM.out t⟩
            go_wp2_with fail
            go_roundw
            case rel => first | exact ⟨ob2, n + k, cap2, i + 1, rfl, by go_num, by omega, by omega, HG, HBI⟩ | ((repeat apply Exists.intro); exact ⟨⟨rfl, by go_num, by omega, by omega, HG, HBI⟩, rfl⟩)
            case measure => simp [intOf]; omega
      · have HG : Hid (∃ acc', IntL wA wB.heap.size (.slice ob n cap) acc' ∧ ∀ t, t ∈ acc' ↔ Gives H.hols y (i + 1) t) := Lib.hid (by
          obtain ⟨acc, g1, g2, -⟩ := HA2.out
          exact ⟨acc, g1, fun t => (g2 t).trans (HSK.out hlo t).symm⟩)
        by_cases l1 : y < lo
        · clear hlo
          go_wp2_with fail
          go_roundw
          case rel => exact ⟨ob, n, cap, i + 1, rfl, by go_num, by omega, by omega, HG, HWA⟩
          case measure => simp [intOf]; omega
        · have l2 : hi' < y := by omega
          clear hlo
          go_wp2_with fail
          go_roundw
          case rel => exact ⟨ob, n, cap, i + 1, rfl, by go_num, by omega, by omega, HG, HWA⟩
          case measure => simp [intOf]; omega
    · have hin : i = nh := by omega
      subst hin
      obtain ⟨acc, g1, g2⟩ := HA.out
      have hnl : acc.length = n := by
        obtain ⟨oa, c2, e⟩ := g1.form
        injection e with _ e _
        exact e.symm
      have CS : Hid (Calls Tryz.prog 60 #[.slice ob n cap] wo fun e w' => e = .returned (.tuple #[]) ∧ IntL w' wB.heap.size (.slice ob n cap) (acc.mergeSort fun x y => decide (x ≤ y)) ∧ wo.grownBy w' (Value.slice ob n cap).ownBlock) := Lib.hid (sort_any _ acc _ wo g1 (by omega))
      obtain ⟨so, hso⟩ : ∃ so, (acc.mergeSort fun x y => decide (x ≤ y)) = so := ⟨_, rfl⟩
      have hsl : so.length ≤ 1000000 := by rw [← hso, List.length_mergeSort]; omega
      have HSC := Lib.hid (sort_compact acc)
      rw [hso] at CS HSC
      have HG2 := Lib.hid g2
      have HOW := Lib.hid (fun q hq => (g1.lt q hq).1)
      clear g1 g2 hnl hso
      go_wp2_with (first
        | (go_at_call 60; refine (CS.out).mono ?_; rintro e w5 ⟨rfl, hs5, hg5⟩; have HS5 := Lib.hid hs5; have HB5 := Lib.hid (HB.out.grown hg5 HB.out.size HOW.out); have HO5 := Lib.hid (fun q hq => (hs5.lt q hq).1); clear hs5 hg5)
        | (go_at_call 61; refine (compact_any _ so _ _ HS5.out hsl).mono ?_; rintro e w6 ⟨v6, rfl, hs6, hg6⟩; have HS6 := Lib.hid hs6; have HB6 := Lib.hid (HB5.out.grown hg6 HB5.out.size HO5.out); clear hs6 hg6))
      go_ret
      refine ⟨_, Lib.compact so, rfl, HS6.out.low (Nat.le_of_lt HLT.out), HSC.out.1, fun t => (HSC.out.2 t).trans ((HG2.out t).trans (HAL.out t)), thenB HB0.out HB6.out⟩
end Go.Proofs.YtbgcccfgcdkmdaaGreatDoor
