/- Hours of work in memory; what is wrong with them, on both sides. -/
import Derived.Test.YtbgcccfgcdkmdaaGreatDoorWrkB
import Derived.Test.YtbgcccfgcdkmdaaGreatDoorIdx
import Derived.Test.YtbgcccfgcdkmdaaGreatDoorQTail
namespace Go.Proofs.YtbgcccfgcdkmdaaGreatDoor.Wrk
/-- The first error of f k, f (k + 1), .. -/
def frm (f : Nat → Int) (n k : Nat) : Int := if k < n then (if f k ≠ 0 then f k else frm f n (k + 1)) else 0
  termination_by n - k
theorem frm_hit {f : Nat → Int} {n k : Nat} (h : k < n) (h2 : f k ≠ 0) : frm f n k = f k := by rw [frm, if_pos h, if_pos h2]
theorem frm_go {f : Nat → Int} {n k : Nat} (h : k < n) (h2 : f k = 0) : frm f n k = frm f n (k + 1) := by
  conv => lhs; rw [frm]
  rw [if_pos h, if_neg (fun e => e h2)]
theorem frm_end {f : Nat → Int} {n k : Nat} (h : n ≤ k) : frm f n k = 0 := by rw [frm, if_neg (by omega)]
structure Hrs where
  week : Nat → List (Int × Int)
  hols : List Hol
def hol0 : Hol := ⟨0, 0, 0, 0, 0, 0, 0, 0, 0, 0⟩
/-- What is wrong with a span of a weekday. -/
def spAt (L : List (Int × Int)) (i : Nat) : Int :=
  if (L.getD i (0, 0)).1 < 0 ∨ 1440 < (L.getD i (0, 0)).2 ∨ (L.getD i (0, 0)).2 ≤ (L.getD i (0, 0)).1 then 1
  else if 0 < i ∧ (L.getD i (0, 0)).1 ≤ (L.getD (i - 1) (0, 0)).2 then 7 else 0
def wkE (L : List (Int × Int)) : Int := if 60 < L.length then 6 else frm (spAt L) L.length 0
def wksE (H : Hrs) : Int := frm (fun k => wkE (H.week k)) 7 0
def hosE (L : List Hol) : Int := if 60 < L.length then 6 else frm (fun i => hE (L.getD i hol0)) L.length 0
def chk (H : Hrs) : Int := if wksE H ≠ 0 then wksE H else hosE H.hols
theorem chk_week {H : Hrs} {x : Int} (h : wksE H = x) (hx : x ≠ 0) : chk H = x := by unfold chk; rw [if_pos (by rw [h]; exact hx), h]
theorem chk_hols {H : Hrs} (h : wksE H = 0) : chk H = hosE H.hols := by unfold chk; rw [if_neg (fun e => e h)]
end Go.Proofs.YtbgcccfgcdkmdaaGreatDoor.Wrk
namespace Go.Proofs.YtbgcccfgcdkmdaaGreatDoor
open Go.RowKit Wrk
theorem addr_block (a : Addr) (k : Nat) : (a.add k).block = a.block := by unfold Addr.add; split <;> rfl
/-- A []Span below block B. -/
def VSp (B : Nat) (w : World) (v : Value) (L : List (Int × Int)) : Prop :=
  ∃ oa cap, v = .slice oa L.length cap ∧ (0 < L.length → ∃ a, oa = some a) ∧ ∀ a, oa = some a → (0 < L.length → a.block < B) ∧ ∀ i, i < L.length → w.cell? (a.add (i * 2)) = some (.int .i64 (L.getD i (0, 0)).1) ∧ w.cell? ((a.add (i * 2)).add 1) = some (.int .i64 (L.getD i (0, 0)).2)
theorem VSp.call {B : Nat} {w w' : World} {v : Value} {L : List (Int × Int)} (h : VSp B w v L) (hb : Below B w w') : VSp B w' v L := by
  obtain ⟨oa, cap, h1, h2, h3⟩ := h
  refine ⟨oa, cap, h1, h2, fun a ha => ⟨(h3 a ha).1, fun i hi => ?_⟩⟩
  have hB := (h3 a ha).1 (by omega)
  obtain ⟨g1, g2⟩ := (h3 a ha).2 i hi
  exact ⟨(hb.cell (p := a.add (i * 2)) (by rw [addr_block]; exact hB)).trans g1, (hb.cell (p := (a.add (i * 2)).add 1) (by rw [addr_block, addr_block]; exact hB)).trans g2⟩
theorem VSp.at {B : Nat} {w : World} {oa : Option Addr} {n cap : Nat} {L : List (Int × Int)} (h : VSp B w (.slice oa n cap) L) {i : Nat} (hi : i < L.length) :
    ∃ a, oa = some a ∧ a.block < B ∧ w.cell? (a.add (i * 2)) = some (.int .i64 (L.getD i (0, 0)).1) ∧ w.cell? { block := (a.add (i * 2)).block, off := (a.add (i * 2)).off + 1 } = some (.int .i64 (L.getD i (0, 0)).2) := by
  obtain ⟨ob, c, h1, h2, h3⟩ := h
  simp only [Value.slice.injEq] at h1
  obtain ⟨rfl, -, rfl⟩ := h1
  obtain ⟨a, rfl⟩ := h2 (by omega)
  obtain ⟨g1, g2⟩ := (h3 a rfl).2 i hi
  exact ⟨a, rfl, (h3 a rfl).1 (by omega), g1, g2⟩
theorem VSp.form {B : Nat} {w : World} {v : Value} {L : List (Int × Int)} (h : VSp B w v L) : ∃ oa cap, v = .slice oa L.length cap := by
  obtain ⟨oa, cap, h1, _⟩ := h; exact ⟨oa, cap, h1⟩
def fld (x : Hol) : Nat → Int
  | 0 => x.kind | 1 => x.cal | 2 => x.month | 3 => x.day | 4 => x.n | 5 => x.wday | 6 => x.off | 7 => x.lo | 8 => x.hi | _ => x.moves
/-- A []Holiday below block B. -/
def VHo (B : Nat) (w : World) (v : Value) (L : List Hol) : Prop :=
  ∃ oa cap, v = .slice oa L.length cap ∧ (0 < L.length → ∃ a, oa = some a) ∧ ∀ a, oa = some a → (0 < L.length → a.block < B) ∧ ∀ i, i < L.length → ∀ k, k < 10 → w.cell? ((a.add (i * 10)).add k) = some (.int .i64 (fld (L.getD i hol0) k))
theorem VHo.call {B : Nat} {w w' : World} {v : Value} {L : List Hol} (h : VHo B w v L) (hb : Below B w w') : VHo B w' v L := by
  obtain ⟨oa, cap, h1, h2, h3⟩ := h
  refine ⟨oa, cap, h1, h2, fun a ha => ⟨(h3 a ha).1, fun i hi k hk => ?_⟩⟩
  have hB := (h3 a ha).1 (by omega)
  exact (hb.cell (p := (a.add (i * 10)).add k) (by rw [addr_block, addr_block]; exact hB)).trans ((h3 a ha).2 i hi k hk)
theorem VHo.at {B : Nat} {w : World} {oa : Option Addr} {n cap : Nat} {L : List Hol} (h : VHo B w (.slice oa n cap) L) {i : Nat} (hi : i < L.length) :
    ∃ a, oa = some a ∧ a.block < B ∧ w.cell? (a.add (i * 10)) = some (.int .i64 (L.getD i hol0).kind) ∧ w.cell? { block := (a.add (i * 10)).block, off := (a.add (i * 10)).off + 1 } = some (.int .i64 (L.getD i hol0).cal) ∧ w.cell? { block := (a.add (i * 10)).block, off := (a.add (i * 10)).off + 2 } = some (.int .i64 (L.getD i hol0).month) ∧ w.cell? { block := (a.add (i * 10)).block, off := (a.add (i * 10)).off + 3 } = some (.int .i64 (L.getD i hol0).day) ∧ w.cell? { block := (a.add (i * 10)).block, off := (a.add (i * 10)).off + 4 } = some (.int .i64 (L.getD i hol0).n) ∧ w.cell? { block := (a.add (i * 10)).block, off := (a.add (i * 10)).off + 5 } = some (.int .i64 (L.getD i hol0).wday) ∧ w.cell? { block := (a.add (i * 10)).block, off := (a.add (i * 10)).off + 6 } = some (.int .i64 (L.getD i hol0).off) ∧ w.cell? { block := (a.add (i * 10)).block, off := (a.add (i * 10)).off + 7 } = some (.int .i64 (L.getD i hol0).lo) ∧ w.cell? { block := (a.add (i * 10)).block, off := (a.add (i * 10)).off + 8 } = some (.int .i64 (L.getD i hol0).hi) ∧ w.cell? { block := (a.add (i * 10)).block, off := (a.add (i * 10)).off + 9 } = some (.int .i64 (L.getD i hol0).moves) := by
  obtain ⟨ob, c, h1, h2, h3⟩ := h
  simp only [Value.slice.injEq] at h1
  obtain ⟨rfl, -, rfl⟩ := h1
  obtain ⟨a, rfl⟩ := h2 (by omega)
  have g := (h3 a rfl).2 i hi
  exact ⟨a, rfl, (h3 a rfl).1 (by omega), g 0 (by decide), g 1 (by decide), g 2 (by decide), g 3 (by decide), g 4 (by decide), g 5 (by decide), g 6 (by decide), g 7 (by decide), g 8 (by decide), g 9 (by decide)⟩
theorem VHo.form {B : Nat} {w : World} {v : Value} {L : List Hol} (h : VHo B w v L) : ∃ oa cap, v = .slice oa L.length cap := by
  obtain ⟨oa, cap, h1, _⟩ := h; exact ⟨oa, cap, h1⟩
theorem hBW {B : Nat} {w w' : World} (h : B ≤ w.heap.size) (hb : Below w.heap.size w w') : Below B w w' := hb.mono h
/-- Hours of work that came in. -/
structure HrsR (B : Nat) (w : World) (s : Nat → Value) (vh : Value) (H : Hrs) : Prop where
  week : ∀ k, k < 7 → VSp B w (s k) (H.week k)
  hols : VHo B w vh H.hols
theorem HrsR.call {B : Nat} {w w' : World} {s : Nat → Value} {vh : Value} {H : Hrs} (h : HrsR B w s vh H) (hb : Below B w w') : HrsR B w' s vh H := ⟨fun k hk => (h.week k hk).call hb, h.hols.call hb⟩
def hoursV (s : Nat → Value) (vh : Value) : Value := .agg #[s 0, s 1, s 2, s 3, s 4, s 5, s 6, vh]
theorem seven {P : Nat → Prop} (h0 : P 0) (h1 : P 1) (h2 : P 2) (h3 : P 3) (h4 : P 4) (h5 : P 5) (h6 : P 6) : ∀ k, k < 7 → P k
  | 0, _ => h0 | 1, _ => h1 | 2, _ => h2 | 3, _ => h3 | 4, _ => h4 | 5, _ => h5 | 6, _ => h6
  | k + 7, h => absurd h (by omega)
theorem week_at (s : Nat → Value) (k : Nat) (hk : k < 7) (w : World) : (Instr.index 23 (.agg #[s 0, s 1, s 2, s 3, s 4, s 5, s 6]) (.int .i64 (k : Int))).run Tryz.prog w = .ok (s k) w := by
  have hx : (Tryz.prog.info? 22).isSome = true := by kernel_rfl
  obtain ⟨i0, hi⟩ := Option.isSome_iff_exists.1 hx
  refine index_agg Tryz.underlying23 hi (by kernel_rfl) (fun _ => by kernel_rfl) .i64 k hk ?_ w
  exact seven (P := fun k => (#[s 0, s 1, s 2, s 3, s 4, s 5, s 6] : Array Value)[k]? = some (s k)) rfl rfl rfl rfl rfl rfl rfl k hk
set_option maxRecDepth 100000 in
set_option maxHeartbeats 16000000 in
theorem check_any (B : Nat) (H : Hrs) (s : Nat → Value) (vh : Value) (w : World) (hr : RomanT w) (hR : HrsR B w s vh H) (hB : B ≤ w.heap.size) : Calls Tryz.prog 28 #[hoursV s vh] w fun e w' => e = .returned (errV (chk H)) ∧ Below w.heap.size w w' := by
  obtain ⟨E, hE0⟩ : ∃ E, chk H = E := ⟨_, rfl⟩
  rw [hE0]
  have HE := Lib.hid hE0
  unfold hoursV
  obtain ⟨wB, hwB⟩ : ∃ W, w.alloc (.cells #[s 0, s 1, s 2, s 3, s 4, s 5, s 6, vh] 26) = W := ⟨_, rfl⟩
  have hb0 : Below w.heap.size w wB := by rw [← hwB]; exact (Below.refl _ _).alloc (Nat.le_refl _) _
  have HB0 := Lib.hid hb0
  have HR := Lib.hid (RomanT.call hr hb0)
  have HH := Lib.hid (hR.call (hb0.mono hB))
  have HBB := Lib.hid (show B ≤ wB.heap.size from Nat.le_trans hB hb0.size)
  have HLT := Lib.hid (show w.heap.size < wB.heap.size by rw [← hwB]; simp)
  obtain ⟨oh, ch, rfl⟩ := hR.hols.form
  obtain ⟨nh, hnh⟩ : ∃ n, H.hols.length = n := ⟨_, rfl⟩
  have HNH := Lib.hid hnh
  rw [hnh] at HH hwB ⊢
  have f7 : wB.cell? ⟨w.heap.size, 7, none⟩ = some (.slice oh nh ch) := by rw [← hwB]; simp
  have F7 := Lib.hid f7
  clear hE0 hb0 hr hR hB hnh f7
  go_enter Tryz.func28, Tryz.ntmps28
  go_upto_region 1 with fail
  have f0 : wB.cell? ⟨w.heap.size, 0, none⟩ = some (s 0) := by rw [← hwB]; simp
  have f1 : wB.cell? ⟨w.heap.size, 1, none⟩ = some (s 1) := by rw [← hwB]; simp
  have f2 : wB.cell? ⟨w.heap.size, 2, none⟩ = some (s 2) := by rw [← hwB]; simp
  have f3 : wB.cell? ⟨w.heap.size, 3, none⟩ = some (s 3) := by rw [← hwB]; simp
  have f4 : wB.cell? ⟨w.heap.size, 4, none⟩ = some (s 4) := by rw [← hwB]; simp
  have f5 : wB.cell? ⟨w.heap.size, 5, none⟩ = some (s 5) := by rw [← hwB]; simp
  have f6 : wB.cell? ⟨w.heap.size, 6, none⟩ = some (s 6) := by rw [← hwB]; simp
  clear hwB
  go_wp2_with fail
  clear f0 f1 f2 f3 f4 f5 f6
  go_loopw [12] (fun c wr => ∃ k : Nat, c = .int .i64 (k : Int) ∧ k ≤ 7 ∧ Hid (Below wB.heap.size wB wr) ∧ Hid (wksE H = frm (fun k => wkE (H.week k)) 7 k)) (fun c _ => 7 - (intOf c).toNat)
  case atStart => exact ⟨0, rfl, by omega, Lib.hid (Below.refl _ _), Lib.hid rfl⟩
  case round =>
    obtain ⟨k, rfl, hk, HB, HK⟩ := hrel
    by_cases hk7 : k < 7
    · obtain ⟨L, hL⟩ : ∃ L, H.week k = L := ⟨_, rfl⟩
      have hv := HH.out.week k hk7
      rw [hL] at hv
      obtain ⟨oa, cap, e⟩ := hv.form
      obtain ⟨n, hn⟩ : ∃ n, L.length = n := ⟨_, rfl⟩
      rw [hn] at e
      rw [e] at hv
      have HV := Lib.hid hv
      have hi : ∀ w0, _ := fun w0 => week_at s k hk7 w0
      rw [e] at hi
      have HK2 : Hid (wksE H = if wkE L ≠ 0 then wkE L else frm (fun k => wkE (H.week k)) 7 (k + 1)) := Lib.hid (HK.out.trans (by rw [frm, if_pos hk7]; simp only [hL]))
      have HN := Lib.hid hn
      clear hL hv e hn HK
      by_cases h60 : 60 < n
      · have hE : E = 6 := by
          have h6 : wkE L = 6 := by unfold wkE; rw [if_pos (by rw [HN.out]; exact h60)]
          rw [← HE.out]; exact chk_week (HK2.out.trans (by rw [h6]; rfl)) (by decide)
        subst hE
        have g1 : (60 : Int) < (n : Int) := by omega
        go_wp2_with fail
        go_ret
        exact ⟨rfl, thenB HB0.out HB.out⟩
      · have g1 : ¬ (60 : Int) < (n : Int) := by omega
        have HL0 : Hid (wkE L = frm (spAt L) n 0) := Lib.hid (by unfold wkE; rw [if_neg (by rw [HN.out]; exact h60), HN.out])
        go_wp2_with fail
        clear hi g1
        obtain ⟨wo, hwo⟩ : ∃ wo : World, wo = wr := ⟨_, rfl⟩
        subst hwo
        go_loopw [21] (fun c wr => ∃ i : Nat, c = .int .i64 (i : Int) ∧ i ≤ n ∧ Hid (Below wB.heap.size wB wr) ∧ Hid (wkE L = frm (spAt L) n i)) (fun c _ => n - (intOf c).toNat)
        case atStart => exact ⟨0, rfl, by omega, HB, HL0⟩
        case round =>
          obtain ⟨i, rfl, hin, HBI, HI⟩ := hrel
          by_cases hi : i < n
          · have hil : i < L.length := by rw [HN.out]; exact hi
            obtain ⟨a, rfl, hab, c0, c1⟩ := (HV.out.call (hBW HBB.out HBI.out)).at hil
            obtain ⟨⟨x1, x2⟩, hx⟩ : ∃ p, L.getD i (0, 0) = p := ⟨_, rfl⟩
            rw [hx] at c0 c1
            simp only at c0 c1
            have HX := Lib.hid hx
            have HI2 : Hid (wkE L = if spAt L i ≠ 0 then spAt L i else frm (spAt L) n (i + 1)) := Lib.hid (HI.out.trans (by rw [frm, if_pos hi]))
            have k1 : (0 : Int) ≤ (i : Int) := by omega
            have k2 : (i : Int) < (n : Int) := by omega
            clear hx HI
            go_upto_region 9 with fail
            obtain ⟨wA, hwA⟩ : ∃ W, wr.alloc (.cells #[.int .i64 x1, .int .i64 x2] 47) = W := ⟨_, rfl⟩
            have hA : Below wr.heap.size wr wA := by rw [← hwA]; exact (Below.refl _ _).alloc (Nat.le_refl _) _
            have HA := Lib.hid (thenB HBI.out hA)
            have a0 : wA.cell? ⟨wr.heap.size, 0, none⟩ = some (.int .i64 x1) := by rw [← hwA]; simp
            have a1 : wA.cell? ⟨wr.heap.size, 1, none⟩ = some (.int .i64 x2) := by rw [← hwA]; simp
            rw [hwA]
            clear hA hwA c0 c1 HBI
            go_cut [40] from 26 to 39 (fun q wx => q = .bool (decide (x1 < 0 ∨ 1440 < x2 ∨ x2 ≤ x1)) ∧ wA = wx)
            case first =>
              go_wp2_with fail
              all_goals go_meet
              all_goals exact ⟨bv (by simp <;> omega), rfl⟩
            case rest =>
              obtain ⟨rfl, rfl⟩ := hcut
              by_cases h1 : x1 < 0 ∨ 1440 < x2 ∨ x2 ≤ x1
              · rw [decide_eq_true h1]
                have hE : E = 1 := by
                  have h6 : spAt L i = 1 := by unfold spAt; rw [HX.out]; exact if_pos h1
                  have h7 : wkE L = 1 := HI2.out.trans (by rw [h6]; rfl)
                  rw [← HE.out]; exact chk_week (HK2.out.trans (by rw [h7]; rfl)) (by decide)
                subst hE
                go_wp2_with fail
                go_ret
                exact ⟨rfl, thenB HB0.out HA.out⟩
              · rw [decide_eq_false h1]
                go_upto_region 11 with fail
                cases i with
                | zero =>
                  have HI3 : Hid (wkE L = frm (spAt L) n 1) := by
                    refine Lib.hid (HI2.out.trans ?_)
                    have h6 : spAt L 0 = 0 := by unfold spAt; rw [HX.out, if_neg h1, if_neg (by omega)]
                    rw [h6]; rfl
                  go_cut [54] from 42 to 53 (fun q wx => q = .bool false ∧ Hid (Below wA.heap.size wA wx))
                  case first =>
                    refine wp_region_below (by kernel_rfl) (by kernel_rfl) ?_
                    repeat (go_big_quiet_step (fail))
                    refine wpQuiet_nil ?_
                    intro w1 hb1
                    have HB1 := Lib.hid hb1
                    clear hb1
                    go_wp2_with fail
                    go_meet
                    exact ⟨rfl, HB1⟩
                  case rest =>
                    obtain ⟨rfl, HB1⟩ := hcut
                    go_wp2_with fail
                    go_roundw
                    case rel => exact ⟨1, by go_num, by omega, Lib.hid (thenB HA.out HB1.out), HI3⟩
                    case measure => simp [intOf]; omega
                | succ j =>
                  have HI3 : Hid (wkE L = if (x1 ≤ (L.getD j (0, 0)).2) then 7 else frm (spAt L) n (j + 2)) := by
                    refine Lib.hid (HI2.out.trans ?_)
                    have h6 : spAt L (j + 1) = if x1 ≤ (L.getD j (0, 0)).2 then 7 else 0 := by
                      unfold spAt; rw [HX.out, if_neg h1, Nat.add_sub_cancel]
                      by_cases h8 : x1 ≤ (L.getD j (0, 0)).2
                      · rw [if_pos ⟨by omega, h8⟩, if_pos h8]
                      · rw [if_neg (fun e => h8 e.2), if_neg h8]
                    rw [h6]
                    by_cases h8 : x1 ≤ (L.getD j (0, 0)).2
                    · rw [if_pos h8, if_pos h8]; rfl
                    · rw [if_neg h8, if_neg h8]; rfl
                  obtain ⟨b, hb, -, -, d1⟩ := (HV.out.call (hBW HBB.out HA.out)).at (i := j) (by rw [HN.out]; omega)
                  injection hb with hb
                  subst hb
                  obtain ⟨y, hy⟩ : ∃ y, (L.getD j (0, 0)).2 = y := ⟨_, rfl⟩
                  rw [hy] at d1 HI3
                  have r0 := cell_regrown a0
                  have r1 := cell_regrown d1
                  have k3 : (0 : Int) ≤ (j : Int) := by omega
                  have k4 : (j : Int) < (n : Int) := by omega
                  clear hy a0 a1 d1 HI2
                  go_cut [54] from 42 to 53 (fun q wx => q = .bool (decide (x1 ≤ y)) ∧ Hid (Below wA.heap.size wA wx))
                  case first =>
                    refine wp_region_below (by kernel_rfl) (by kernel_rfl) ?_
                    repeat (go_big_quiet_step (fail))
                    refine wpQuiet_nil ?_
                    intro w1 hb1
                    have HB1 := Lib.hid hb1
                    clear hb1
                    go_wp2_with fail
                    go_meet
                    exact ⟨rfl, HB1⟩
                  case rest =>
                    obtain ⟨rfl, HB1⟩ := hcut
                    by_cases h8 : x1 ≤ y
                    · rw [decide_eq_true h8]
                      have hE : E = 7 := by
                        have h7 : wkE L = 7 := HI3.out.trans (if_pos h8)
                        rw [← HE.out]; exact chk_week (HK2.out.trans (by rw [h7]; rfl)) (by decide)
                      subst hE
                      go_wp2_with fail
                      go_ret
                      exact ⟨rfl, thenB HB0.out (thenB HA.out HB1.out)⟩
                    · rw [decide_eq_false h8]
                      go_wp2_with fail
                      go_roundw
                      case rel => exact ⟨j + 2, by go_num, by omega, Lib.hid (thenB HA.out HB1.out), Lib.hid (HI3.out.trans (if_neg h8))⟩
                      case measure => simp [intOf]; omega
          · go_wp2_with fail
            have HZ : Hid (wkE L = 0) := Lib.hid (HI.out.trans (frm_end (by omega)))
            go_roundw
            case rel => first | exact ⟨k + 1, by go_num, by omega, HBI, Lib.hid (HK2.out.trans (by rw [HZ.out]; rfl))⟩ | ((repeat apply Exists.intro); exact ⟨⟨k + 1, by go_num, by omega, HBI, Lib.hid (HK2.out.trans (by rw [HZ.out]; rfl))⟩, rfl⟩)
            case measure => simp [intOf]; omega
    · have HO : Hid (hosE H.hols = E) := Lib.hid (by rw [← HE.out]; exact (chk_hols (HK.out.trans (frm_end (by omega)))).symm)
      have f7 := (HB.out.cell (p := ⟨w.heap.size, 7, none⟩) HLT.out).trans F7.out
      clear HK
      by_cases h60 : 60 < nh
      · have hE : E = 6 := by rw [← HO.out]; unfold hosE; rw [if_pos (by rw [HNH.out]; exact h60)]
        subst hE
        have g1 : (60 : Int) < (nh : Int) := by omega
        go_wp2_with fail
        go_ret
        exact ⟨rfl, thenB HB0.out HB.out⟩
      · have g1 : ¬ (60 : Int) < (nh : Int) := by omega
        have HL0 : Hid (E = frm (fun i => hE (H.hols.getD i hol0)) nh 0) := Lib.hid (by rw [← HO.out]; unfold hosE; rw [if_neg (by rw [HNH.out]; exact h60), HNH.out])
        go_wp2_with fail
        clear f7 g1
        obtain ⟨wo, hwo⟩ : ∃ wo : World, wo = wr := ⟨_, rfl⟩
        subst hwo
        go_loopw [66] (fun c wr => ∃ i : Nat, c = .int .i64 (i : Int) ∧ i ≤ nh ∧ Hid (Below wB.heap.size wB wr) ∧ Hid (E = frm (fun i => hE (H.hols.getD i hol0)) nh i)) (fun c _ => nh - (intOf c).toNat)
        case atStart => exact ⟨0, rfl, by omega, HB, HL0⟩
        case round =>
          obtain ⟨i, rfl, hin, HBI, HI⟩ := hrel
          by_cases hi : i < nh
          · obtain ⟨a, rfl, hab, c0, c1, c2, c3, c4, c5, c6, c7, c8, c9⟩ := (HH.out.hols.call (hBW HBB.out HBI.out)).at (i := i) (by rw [HNH.out]; omega)
            have HI2 : Hid (E = if hE (H.hols.getD i hol0) ≠ 0 then hE (H.hols.getD i hol0) else frm (fun i => hE (H.hols.getD i hol0)) nh (i + 1)) := Lib.hid (HI.out.trans (by rw [frm, if_pos hi]))
            obtain ⟨x, hx⟩ : ∃ x, H.hols.getD i hol0 = x := ⟨_, rfl⟩
            rw [hx] at c0 c1 c2 c3 c4 c5 c6 c7 c8 c9 HI2
            have k1 : (0 : Int) ≤ (i : Int) := by omega
            have k2 : (i : Int) < (nh : Int) := by omega
            have CO := Lib.hid fun w0 h => holiday_any x w0 h
            obtain ⟨ki, ca, mo, dy, nn, wd, of, lo, hi, mv⟩ := x
            unfold holV at CO
            simp only at c0 c1 c2 c3 c4 c5 c6 c7 c8 c9 CO
            obtain ⟨R, hR⟩ : ∃ R, hE ⟨ki, ca, mo, dy, nn, wd, of, lo, hi, mv⟩ = R := ⟨_, rfl⟩
            rw [hR] at CO HI2
            clear hx hR HI
            go_upto_region 20 with fail
            obtain ⟨wA, hwA⟩ : ∃ W, wr.alloc (.cells #[.int .i64 ki, .int .i64 ca, .int .i64 mo, .int .i64 dy, .int .i64 nn, .int .i64 wd, .int .i64 of, .int .i64 lo, .int .i64 hi, .int .i64 mv] 59) = W := ⟨_, rfl⟩
            have hA : Below wr.heap.size wr wA := by rw [← hwA]; exact (Below.refl _ _).alloc (Nat.le_refl _) _
            have HA := Lib.hid (thenB HBI.out hA)
            have HRA := Lib.hid (RomanT.call HR.out HA.out)
            have a0 : wA.cell? ⟨wr.heap.size, 0, none⟩ = some (.int .i64 ki) := by rw [← hwA]; simp
            have a1 : wA.cell? ⟨wr.heap.size, 1, none⟩ = some (.int .i64 ca) := by rw [← hwA]; simp
            have a2 : wA.cell? ⟨wr.heap.size, 2, none⟩ = some (.int .i64 mo) := by rw [← hwA]; simp
            have a3 : wA.cell? ⟨wr.heap.size, 3, none⟩ = some (.int .i64 dy) := by rw [← hwA]; simp
            have a4 : wA.cell? ⟨wr.heap.size, 4, none⟩ = some (.int .i64 nn) := by rw [← hwA]; simp
            have a5 : wA.cell? ⟨wr.heap.size, 5, none⟩ = some (.int .i64 wd) := by rw [← hwA]; simp
            have a6 : wA.cell? ⟨wr.heap.size, 6, none⟩ = some (.int .i64 of) := by rw [← hwA]; simp
            have a7 : wA.cell? ⟨wr.heap.size, 7, none⟩ = some (.int .i64 lo) := by rw [← hwA]; simp
            have a8 : wA.cell? ⟨wr.heap.size, 8, none⟩ = some (.int .i64 hi) := by rw [← hwA]; simp
            have a9 : wA.cell? ⟨wr.heap.size, 9, none⟩ = some (.int .i64 mv) := by rw [← hwA]; simp
            rw [hwA]
            clear hA hwA c0 c1 c2 c3 c4 c5 c6 c7 c8 c9 HBI
            by_cases h0 : R = 0
            · subst h0
              rw [errV_nil] at CO
              go_wp2_with (go_at_call 43; (with_reducible refine (CO.out _ HRA.out).mono ?_); rintro e w2 ⟨rfl, hb⟩; have HB2 := Lib.hid (thenB HA.out hb); clear hb)
              go_roundw
              case rel => exact ⟨i + 1, by go_num, by omega, HB2, Lib.hid (HI2.out.trans (if_neg (by simp)))⟩
              case measure => simp [intOf]; omega
            · have hE : E = R := HI2.out.trans (if_pos h0)
              subst hE
              have HV := Lib.hid (errV_hit h0)
              rw [errV_hit h0] at CO
              go_wp2_with (go_at_call 43; (with_reducible refine (CO.out _ HRA.out).mono ?_); rintro e w2 ⟨rfl, hb⟩; have HB2 := Lib.hid (thenB HA.out hb); clear hb)
              go_ret
              exact ⟨by rw [HV.out]; rfl, thenB HB0.out HB2.out⟩
          · have hE : E = 0 := HI.out.trans (frm_end (by omega))
            subst hE
            go_wp2_with fail
            go_ret
            exact ⟨rfl, thenB HB0.out HBI.out⟩
end Go.Proofs.YtbgcccfgcdkmdaaGreatDoor
