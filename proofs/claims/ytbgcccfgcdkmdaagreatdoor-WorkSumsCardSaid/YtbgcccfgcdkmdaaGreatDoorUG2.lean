/- Plain: days with work. slices.Index, Contains and the document's Member over lists of numbers of the call's own. A map of the call's own, from numbers to values: a function. -/
import Derived.Test.YtbgcccfgcdkmdaaGreatDoorUG9
import Derived.Test.YtbgcccfgcdkmdaaGreatDoorTell
import Derived.Maps.OwnSet
namespace Go.Proofs.YtbgcccfgcdkmdaaGreatDoor.Wrk
open Go Go.Proofs.YtbgcccfgcdkmdaaGreatDoor
theorem y1_step (y : Int) (h1 : -20000 ≤ y) (h2 : y ≤ 20000) : y1 y + 353 ≤ y1 (y + 1) := by
  have := Dm.start_le 1 y (y + 1) (by omega) (by omega) (by omega) (by omega) (by omega)
  unfold y1
  omega
theorem y1_le (y z : Int) (h1 : -20000 ≤ y) (h2 : z ≤ 20000) (h : y ≤ z) : y1 y + 353 * (z - y) ≤ y1 z := by
  have := Dm.start_le 1 y z (by omega) (by omega) (by omega) (by omega) h
  unfold y1
  omega
theorem east_near (e : Bool) (y : Int) (h1 : 1 ≤ y) (h2 : y ≤ 9999) : y1 y - 3 ≤ Dm.dayOf (Dm.calE e) y 4 19 ∧ Dm.dayOf (Dm.calE e) y 4 19 ≤ y1 (y + 1) + 80 := by
  cases e
  · have := Dm.in_year 1 y 4 19 (by omega) (by omega) (Dm.valid4 1 y 19 (by omega) (by omega) h1 (by omega) (by omega) (by omega))
    show y1 y - 3 ≤ Dm.dayOf 1 y 4 19 ∧ Dm.dayOf 1 y 4 19 ≤ y1 (y + 1) + 80
    unfold y1
    omega
  · have := Dm.in_year 2 y 4 19 (by omega) (by omega) (Dm.valid4 2 y 19 (by omega) (by omega) h1 (by omega) (by omega) (by omega))
    show y1 y - 3 ≤ Dm.dayOf 2 y 4 19 ∧ Dm.dayOf 2 y 4 19 ≤ y1 (y + 1) + 80
    have s1 : ∀ z, Dm.start 1 z = Dm.gStart z := fun z => by unfold Dm.start; simp
    have s2 : ∀ z, Dm.start 2 z = 365 * (z - 1) + (z - 1) / 4 := fun z => by unfold Dm.start; simp
    have f1 : Dm.first 1 = -719162 := by simp [Dm.first]
    have f2 : Dm.first 2 = -719164 := by simp [Dm.first]
    unfold y1
    rw [s1, s1, f1]
    rw [s2, s2, f2] at this
    unfold Dm.gStart
    omega
theorem OnD_near {x : Hol} {y d : Int} (hx : hE x = 0) (h1 : 1 ≤ y) (h2 : y ≤ 9999) (h : OnD x y d) : y1 y - 135 ≤ d ∧ d ≤ y1 (y + 1) + 190 := by
  have hb := y1_step y (by omega) (by omega)
  rcases hE_facts hx with ⟨hk, c1, c2⟩ | ⟨hk, m1, m2, w1, w2, n1, n2⟩ | ⟨hk, o1, o2⟩ | ⟨hk, o1, o2⟩
  · unfold OnD at h
    rw [if_pos hk] at h
    omega
  · obtain ⟨-, l1, l2, o1, o2, -⟩ := month_facts y x.month h1 h2 m1 m2
    have := (nth_on (y := y) (d := d) hk w1 w2).1 h
    omega
  all_goals
    unfold OnD at h
    rw [if_neg (by omega), if_neg (by omega)] at h
    obtain ⟨e, he⟩ : ∃ e, decide (x.kind = 4) = e := ⟨_, rfl⟩
    rw [he] at h
    have f1 := east_near e y h1 h2
    have f3 := Dm.ep_bd e y
    have f4 : Dm.full e y = Dm.dayOf (Dm.calE e) y 4 19 - Dm.ep e y := rfl
    have f5 := Dm.sunday_bd (Dm.full e y)
    omega
theorem HolD_near {L : List Hol} {y t : Int} (hL : ∀ x, x ∈ L → hE x = 0) (h1 : 1 ≤ y) (h2 : y ≤ 9999) (h : HolD L y t) : y1 y - 136 ≤ t ∧ t ≤ y1 (y + 1) + 192 := by
  obtain ⟨x, hx, -, -, d0, hd, rfl⟩ := h
  have := OnD_near (hL x hx) h1 h2 hd
  have := mv_bd x.moves d0
  omega
theorem chk_hE {H : Hrs} (h : chk H = 0) : ∀ x, x ∈ H.hols → hE x = 0 := fun x hx => by
  obtain ⟨i, hi, rfl⟩ := List.getElem_of_mem hx
  have := (chk_ok h).2 i hi
  rwa [List.getD_eq_getElem?_getD, List.getElem?_eq_getElem hi] at this
/-- A day is a holiday of some year. -/
def FreeD (L : List Hol) (t : Int) : Prop := ∃ y, 1 ≤ y ∧ y ≤ 9999 ∧ HolD L y t
theorem HolD_years {L : List Hol} {y t Y : Int} (hL : ∀ x, x ∈ L → hE x = 0) (h1 : 1 ≤ y) (h2 : y ≤ 9999) (h : HolD L y t) (hY1 : -10 ≤ Y) (hY2 : Y ≤ 10010) (t1 : y1 Y ≤ t) (t2 : t < y1 (Y + 1)) : Y - 1 ≤ y ∧ y ≤ Y + 1 := by
  have hn := HolD_near hL h1 h2 h
  constructor
  · rcases Int.lt_or_le y (Y - 1) with g | g
    · have := y1_le (y + 1) Y (by omega) (by omega) (by omega); omega
    · exact g
  · rcases Int.lt_or_le (Y + 1) y with g | g
    · have := y1_le (Y + 1) y (by omega) (by omega) (by omega); omega
    · exact g
/-- Years 2 to 9998. -/
def There (t : Int) : Prop := y1 2 ≤ t ∧ t < y1 9999
instance (t : Int) : Decidable (There t) := inferInstanceAs (Decidable (_ ∧ _))
def thereB (t : Int) : Bool := decide (There t)
theorem thereB_true {t : Int} : thereB t = true ↔ There t := by unfold thereB; simp
theorem thereB_false {t : Int} : thereB t = false ↔ ¬ There t := by unfold thereB; simp
open Classical in
noncomputable def freeB (L : List Hol) (t : Int) : Bool := decide (FreeD L t)
theorem freeB_true {L : List Hol} {t : Int} : freeB L t = true ↔ FreeD L t := by unfold freeB; simp
theorem freeB_false {L : List Hol} {t : Int} : freeB L t = false ↔ ¬ FreeD L t := by unfold freeB; simp
noncomputable def dayL (H : Hrs) (t : Int) : List (Int × Int) := if freeB H.hols t then [] else H.week (Dm.wd t - 1).toNat
noncomputable def dayV (H : Hrs) (s : Nat → Value) (t : Int) : Value := if freeB H.hols t then .slice none 0 0 else s (Dm.wd t - 1).toNat
theorem VSp.nil (B : Nat) (w : World) : VSp B w (.slice none 0 0) [] := ⟨none, 0, rfl, fun h => absurd h (Nat.lt_irrefl 0), fun a h => by cases h⟩
theorem dayV_sp {B : Nat} {w : World} {s : Nat → Value} {vh : Value} {H : Hrs} (h : HrsR B w s vh H) (t : Int) : VSp B w (dayV H s t) (dayL H t) := by
  unfold dayV dayL
  cases hf : freeB H.hols t
  · exact h.week _ (by have := Dm.wd_bd t; omega)
  · exact VSp.nil B w
theorem year_at {t Y : Int} (h : There t) (t1 : y1 Y ≤ t) (t2 : t < y1 (Y + 1)) (b1 : -17000 ≤ Y) (b2 : Y ≤ 17000) : 2 ≤ Y ∧ Y ≤ 9998 := by
  obtain ⟨g1, g2⟩ := h
  constructor
  · rcases Int.lt_or_le Y 2 with g | g
    · have := y1_le (Y + 1) 2 (by omega) (by omega) (by omega); omega
    · exact g
  · rcases Int.lt_or_le 9998 Y with g | g
    · have := y1_le 9999 Y (by omega) (by omega) (by omega); omega
    · exact g
end Go.Proofs.YtbgcccfgcdkmdaaGreatDoor.Wrk
namespace Go.Proofs.YtbgcccfgcdkmdaaGreatDoor
open Go.RowKit Wrk
theorem IntL.lenM {w : World} {b : Nat} {v : Value} {l : List Int} (h : IntL w b v l) : l.length ≤ maxLen := by
  rcases h.2 with ⟨_, h0⟩ | ⟨g, cap, cur, _, _, _, h1, h2, _⟩
  · omega
  · omega
theorem mem_at {l : List Int} {x : Int} (h : x ∈ l) : ∃ i, i < l.length ∧ l.getD i 0 = x := by
  obtain ⟨i, hi, e⟩ := List.getElem_of_mem h
  exact ⟨i, hi, by rw [List.getD_eq_getElem?_getD, List.getElem?_eq_getElem hi]; exact e⟩
theorem at_mem {l : List Int} {k : Nat} (h : k < l.length) : l.getD k 0 ∈ l := by
  rw [List.getD_eq_getElem?_getD, List.getElem?_eq_getElem h]
  exact List.getElem_mem h
theorem getD_mem {l : List Int} {x : Int} (h : ∀ j, j < l.length → l.getD j 0 ≠ x) : x ∉ l := fun hm => by
  obtain ⟨i, hi, e⟩ := mem_at hm
  exact h i hi e
set_option maxHeartbeats 2000000 in
theorem index_any (v : Value) (l : List Int) (x : Int) (w : World) (b : Nat) (h : IntL w b v l) (hl : l.length ≤ 9223372036854775807) :
    Calls Tryz.prog 94 #[v, .int .i64 x] w fun e w' => ∃ i : Int, e = .returned (.int .i64 i) ∧ (0 ≤ i ↔ x ∈ l) ∧ w' = w := by
  obtain ⟨oa, cap, rfl⟩ := h.form
  obtain ⟨n, hn⟩ : ∃ n, l.length = n := ⟨_, rfl⟩
  rw [hn] at h hl ⊢
  have H := Lib.hid h
  have HN := Lib.hid hn
  clear h hn
  go_enter Tryz.func94, Tryz.ntmps94
  go_wp2_with fail
  go_loop [8] (fun c => ∃ k : Nat, c = .int .i64 (k : Int) ∧ k ≤ n ∧ Hid (∀ j, j < k → l.getD j 0 ≠ x)) (fun c => n - (intOf c).toNat)
  case atStart => exact ⟨0, rfl, by omega, Lib.hid fun j hj => by omega⟩
  case round =>
    obtain ⟨k, rfl, hk, HK⟩ := hrel
    by_cases hkn : k < n
    · have hkl : k < l.length := by rw [HN.out]; exact hkn
      obtain ⟨ad, rfl, -, -, hc, -⟩ := H.out.at hkl
      obtain ⟨q, hq⟩ : ∃ q, l.getD k 0 = q := ⟨_, rfl⟩
      rw [hq] at hc
      by_cases hx : x = q
      · have HM : Hid (x ∈ l) := Lib.hid (by rw [hx, ← hq]; exact at_mem hkl)
        have hb : (x == q) = true := by simpa using hx
        clear hx hq hkl
        go_wp2_with fail
        go_ret
        exact ⟨k, rfl, iff_of_true (by omega) HM.out, rfl⟩
      · have HK2 : Hid (∀ j, j < k + 1 → l.getD j 0 ≠ x) := Lib.hid fun j hj => by
          by_cases e : j = k
          · subst e; rw [hq]; exact Ne.symm hx
          · exact HK.out j (by omega)
        have hb : (x == q) = false := by simpa using hx
        clear hx hq hkl
        go_wp2_with fail
        go_round
        case rel => exact ⟨k + 1, by go_num, by omega, HK2⟩
        case measure => simp [intOf]; omega
    · obtain rfl : k = n := by omega
      have HM : Hid (x ∉ l) := Lib.hid (getD_mem (by rw [HN.out]; exact HK.out))
      go_wp2_with fail
      go_ret
      exact ⟨-1, rfl, iff_of_false (by omega) HM.out, rfl⟩
set_option maxHeartbeats 2000000 in
theorem contains_any (v : Value) (l : List Int) (x : Int) (w : World) (b : Nat) (h : IntL w b v l) (hl : l.length ≤ 9223372036854775807) :
    Calls Tryz.prog 73 #[v, .int .i64 x] w fun e w' => e = .returned (.bool (decide (x ∈ l))) ∧ w' = w := by
  have C := Lib.hid (index_any v l x w b h hl)
  obtain ⟨oa, cap, rfl⟩ := h.form
  obtain ⟨n, hn⟩ : ∃ n, l.length = n := ⟨_, rfl⟩
  rw [hn] at C ⊢
  obtain ⟨B, hB⟩ : ∃ B, decide (x ∈ l) = B := ⟨_, rfl⟩
  rw [hB]
  have HB := Lib.hid hB
  clear hn hB
  go_enter Tryz.func73, Tryz.ntmps73
  go_wp2_with (go_at_call 94; refine C.out.mono ?_; rintro e w1 ⟨i, rfl, hi, rfl⟩; have HI := Lib.hid hi; clear hi)
  go_ret
  have e : decide (0 ≤ i) = B := by rw [← HB.out]; exact decide_eq_decide.2 HI.out
  exact ⟨by rw [← e]; rfl, rfl⟩
set_option maxHeartbeats 2000000 in
theorem memberI_any (v : Value) (l : List Int) (x : Int) (w : World) (b : Nat) (h : IntL w b v l) (hl : l.length ≤ 9223372036854775807) :
    Calls Tryz.prog 55 #[v, .int .i64 x] w fun e w' => e = .returned (.bool (decide (x ∈ l))) ∧ w' = w := by
  obtain ⟨oa, cap, rfl⟩ := h.form
  obtain ⟨n, hn⟩ : ∃ n, l.length = n := ⟨_, rfl⟩
  rw [hn] at h hl ⊢
  have H := Lib.hid h
  have HN := Lib.hid hn
  clear h hn
  go_enter Tryz.func55, Tryz.ntmps55
  go_wp2_with fail
  go_loop [5] (fun c => ∃ k : Nat, c = .int .i64 (k : Int) ∧ k ≤ n ∧ Hid (∀ j, j < k → l.getD j 0 ≠ x)) (fun c => n - (intOf c).toNat)
  case atStart => exact ⟨0, rfl, by omega, Lib.hid fun j hj => by omega⟩
  case round =>
    obtain ⟨k, rfl, hk, HK⟩ := hrel
    by_cases hkn : k < n
    · have hkl : k < l.length := by rw [HN.out]; exact hkn
      obtain ⟨ad, rfl, -, -, hc, -⟩ := H.out.at hkl
      obtain ⟨q, hq⟩ : ∃ q, l.getD k 0 = q := ⟨_, rfl⟩
      rw [hq] at hc
      by_cases hx : q = x
      · have HM : Hid (x ∈ l) := Lib.hid (by rw [← hx, ← hq]; exact at_mem hkl)
        have hb : (q == x) = true := by simpa using hx
        clear hx hq hkl
        go_wp2_with fail
        go_ret
        exact ⟨by rw [decide_eq_true HM.out]; rfl, rfl⟩
      · have HK2 : Hid (∀ j, j < k + 1 → l.getD j 0 ≠ x) := Lib.hid fun j hj => by
          by_cases e : j = k
          · subst e; rw [hq]; exact hx
          · exact HK.out j (by omega)
        have hb : (q == x) = false := by simpa using hx
        clear hx hq hkl
        go_wp2_with fail
        go_round
        case rel => exact ⟨k + 1, by go_num, by omega, HK2⟩
        case measure => simp [intOf]; omega
    · obtain rfl : k = n := by omega
      have HM : Hid (x ∉ l) := Lib.hid (getD_mem (by rw [HN.out]; exact HK.out))
      go_wp2_with fail
      go_ret
      exact ⟨by rw [decide_eq_false HM.out]; rfl, rfl⟩
end Go.Proofs.YtbgcccfgcdkmdaaGreatDoor
namespace Go.Proofs.YtbgcccfgcdkmdaaGreatDoor
open Go.RowKit Go.Maps
/-- A value reads as itself. -/
def tokR (v : Value) : Option (DataW Value × List MemPlace) := some (.held v, [])
/-- Block b is a map of at most n entries, from numbers to values: f. -/
def MapI (P : Program) (k : TypeId) (w : World) (b n : Nat) (f : Int → Option Value) : Prop :=
  ∃ D : DataW Value, w.ownsMap P k tokR b n D ∧ ∀ y, (Lit.int .i64 y).wf = true → has D (.int .i64 y) = (f y).isSome ∧ ∀ v, f y = some v → ∀ z, D.atKey (.int .i64 y) z = .held v
theorem MapI.made (P : Program) (k : TypeId) (w : World) : MapI P k (w.alloc (.map #[] 0)) w.heap.size 0 (fun _ => none) :=
  ⟨.map [], World.ownsMap_made w P k tokR, fun y _ => ⟨rfl, fun v h => by cases h⟩⟩
theorem MapI.lt {P : Program} {k : TypeId} {w : World} {b n : Nat} {f : Int → Option Value} (h : MapI P k w b n f) : b < w.heap.size := h.choose_spec.1.lt
theorem MapI.kept {P : Program} {k : TypeId} {w w' : World} {b n : Nat} {f : Int → Option Value} {row : Option Nat} (h : MapI P k w b n f) (hg : w.grownBy w' row) (hne : some b ≠ row) : MapI P k w' b n f := by
  obtain ⟨D, h1, h2⟩ := h
  exact ⟨D, h1.kept hg hne, h2⟩
theorem MapI.call {P : Program} {k : TypeId} {w w' : World} {b n : Nat} {f : Int → Option Value} (h : MapI P k w b n f) (hb : Below w.heap.size w w') : MapI P k w' b n f :=
  h.kept (row := none) ⟨hb.os, hb.tape, hb.output, hb.size, fun k hk _ => hb.block k hk⟩ (by simp)
theorem MapI.mono {P : Program} {k : TypeId} {w : World} {b n n' : Nat} {f : Int → Option Value} (h : MapI P k w b n f) (hn : n ≤ n') : MapI P k w b n' f := by
  obtain ⟨D, h1, h2⟩ := h
  exact ⟨D, h1.mono hn, h2⟩
theorem MapI.setCell {P : Program} {k : TypeId} {w : World} {b n : Nat} {f : Int → Option Value} (h : MapI P k w b n f) {a : Addr} (ha : b ≠ a.block) (u : Value) : MapI P k (w.setCell a u) b n f := by
  obtain ⟨D, h1, h2⟩ := h
  exact ⟨D, h1.setCell ha u, h2⟩
/-- 'v, ok := m[k]'. -/
theorem wpList_lookup_tok {P : Program} (w : World) {ops : Array Oper} {rest : List Oper} {o : Oper} {a : Act} {Q : Exit → Act → World → Prop} (hg : o.guard = none) (m x : Operand) (t : TypeId) (hop : o.op = Op.lookup t m x true)
    (k e : TypeId) (hk : P.underlying k = some (.int .i64)) (ht : P.underlying t = some (.map k e)) {z : Value} (hz : (zeroValue e).run P w = .ok z w) (b n : Nat) (f : Int → Option Value)
    (hm : a.eval m = .map (some b)) (hown : MapI P k w b n f) (y : Int) (hx : a.eval x = .int .i64 y) (hy : (Lit.int .i64 y).wf = true)
    (hK : wpList P ops Q rest (a.put o.dst (.tuple #[(f y).getD z, .bool (f y).isSome])) w) :
    wpList P ops Q (o :: rest) a w := by
  obtain ⟨D, hD, hf⟩ := hown
  have K : Keyed P k := int_keyed hk
  refine wpList_lookup_own_ok w hg m x t hop k e K ht tokR hz (.held z) [] rfl b n D hm hD _ _ hx (keyOf_int_mk hk hy) fun v ps hv => ?_
  obtain ⟨h1, h2⟩ := hf y hy
  have hv' : DataW.held v = D.atKey (.int .i64 y) (.held z) := by
    have := hv
    unfold tokR at this
    injection this with this
    injection this
  rw [h1]
  cases hfy : f y with
  | none =>
    rw [hfy] at h1 hK
    rw [atKey_of_not_has h1] at hv'
    injection hv' with hv'
    rw [hv']
    exact hK
  | some u =>
    rw [hfy] at hK
    rw [h2 u hfy] at hv'
    injection hv' with hv'
    rw [hv']
    exact hK
/-- 'm[k] = v'. -/
theorem wpList_mapUpdate_tok {P : Program} (w : World) {ops : Array Oper} {rest : List Oper} {o : Oper} {a : Act} {Q : Exit → Act → World → Prop} (hg : o.guard = none) (m x v : Operand) (t : TypeId) (hop : o.op = Op.mapUpdate t m x v)
    (k e : TypeId) (hk : P.underlying k = some (.int .i64)) (ht : P.underlying t = some (.map k e)) (b n : Nat) (f : Int → Option Value)
    (hm : a.eval m = .map (some b)) (hown : MapI P k w b n f) (hn : n < maxLen) (y : Int) (val : Value) (hx : a.eval x = .int .i64 y) (hv : a.eval v = val) (hy : (Lit.int .i64 y).wf = true)
    (hK : ∀ w', MapI P k w' b (n + 1) (fun q => if q = y then some val else f q) → w.grownBy w' (some b) → wpList P ops Q rest (a.put o.dst undef) w') :
    wpList P ops Q (o :: rest) a w := by
  obtain ⟨D, hD, hf⟩ := hown
  have K : Keyed P k := int_keyed hk
  have hkey := keyOf_int_mk hk hy
  refine wpList_mapUpdate_own w hg m x v t hop k e K ht tokR b n D hm hD hn _ val _ hx hv hkey (.held val) [] rfl fun w' h1 h2 => ?_
  refine hK w' ⟨_, h1, fun q hq => ?_⟩ h2
  dsimp only
  by_cases e : q = y
  · subst e
    rw [if_pos rfl]
    exact ⟨has_put_same hD.isMap (K.key hkey) _, fun u hu z => by cases hu; exact atKey_put_same hD.isMap (K.key hkey) _ z⟩
  · rw [if_neg e]
    have hne : Lit.int .i64 q ≠ Lit.int .i64 y := fun h => e (by injection h)
    refine ⟨(has_put_other hne _).trans (hf q hq).1, fun u hu z => ?_⟩
    rw [atKey_put_other hne]
    exact (hf q hq).2 u hu z
end Go.Proofs.YtbgcccfgcdkmdaaGreatDoor
