/- The desk: hours of work, and a map of years' holidays. The desk: made; a day's minutes of work. Spans of a day: cloned, held against each other. -/
import Derived.Test.YtbgcccfgcdkmdaaGreatDoorUG2
import Derived.Test.YtbgcccfgcdkmdaaGreatDoorUG8
import Derived.Maps.RangeWalk
import Derived.Deep.QuietTactic
import Derived.BigQuiet
import Derived.Test.YtbgcccfgcdkmdaaGreatDoorAppend
import Derived.Lib.SliceRun
import Derived.Laws.AppendOwnNone
import Derived.Deep.LoopGhost
namespace Go.Proofs.YtbgcccfgcdkmdaaGreatDoor
open Go.RowKit Wrk
theorem IntL.apart {P : Program} {k : TypeId} {w : World} {b m n : Nat} {v : Value} {l : List Int} {f : Int → Option Value} (h : IntL w b v l) (hm : MapI P k w m n f) : v.ownBlock ≠ some m := by
  rcases h.2 with ⟨rfl, -⟩ | ⟨g, cap, cur, rfl, -, hg, -⟩
  · simp [Value.ownBlock]
  · intro e
    have e2 : g = m := by simpa [Value.ownBlock] using e
    subst e2
    obtain ⟨D, ⟨es, ck, hh, -⟩, -⟩ := hm
    rw [hg] at hh
    cases hh
theorem IntL.kept {w w' : World} {b m : Nat} {v : Value} {l : List Int} (h : IntL w b v l) (hg : w.grownBy w' (some m)) (hne : v.ownBlock ≠ some m) : IntL w' b v l :=
  World.ownsRow.kept h hg (.inr hne)
/-- The years' holidays that the map holds. -/
def Years (H : Hrs) (b0 : Nat) (w : World) (f : Int → Option Value) : Prop := ∀ y v, f y = some v → ∃ l, IntL w b0 v l ∧ ∀ t, t ∈ l ↔ HolD H.hols y t
structure DeskR (B : Nat) (H : Hrs) (s : Nat → Value) (vh : Value) (b0 : Nat) (w : World) (q m n : Nat) (f : Int → Option Value) : Prop where
  hrs : HrsR B w s vh H
  rom : RomanT w
  bB : B ≤ b0
  rb : 1 < b0
  qb : b0 ≤ q
  mb : b0 ≤ m
  qm : q ≠ m
  ql : q < w.heap.size
  cells : ∀ k, k < 7 → w.cell? ⟨q, k, none⟩ = some (s k)
  c7 : w.cell? ⟨q, 7, none⟩ = some vh
  c8 : w.cell? ⟨q, 8, none⟩ = some (.map (some m))
  map : MapI Tryz.prog 3 w m n f
  years : Years H b0 w f
theorem grown_below {b0 m : Nat} {w w' : World} (hg : w.grownBy w' (some m)) (hm : b0 ≤ m) (hw : b0 ≤ w.heap.size) : Below b0 w w' :=
  (Below.refl b0 w).grown hg hw (fun k hk => by cases hk; exact hm)
theorem grown_cell {m : Nat} {w w' : World} (hg : w.grownBy w' (some m)) {p : Addr} (hp : p.block < w.heap.size) (hne : p.block ≠ m) : w'.cell? p = w.cell? p :=
  World.cell?_of_block (hg.block p.block hp (by simpa using hne))
theorem below_grown {w w' : World} {row : Option Nat} (hb : Below w.heap.size w w') : w.grownBy w' row := ⟨hb.os, hb.tape, hb.output, hb.size, fun k hk _ => hb.block k hk⟩
/-- The desk in a later world. -/
theorem DeskR.turn {B b0 q m n n' : Nat} {H : Hrs} {s : Nat → Value} {vh : Value} {w w' : World} {f f' : Int → Option Value} (h : DeskR B H s vh b0 w q m n f) (hg : w.grownBy w' (some m)) (hm : MapI Tryz.prog 3 w' m n' f') (hy : Years H b0 w' f') : DeskR B H s vh b0 w' q m n' f' := by
  have hb0 : b0 ≤ w.heap.size := Nat.le_of_lt (Nat.lt_of_le_of_lt h.qb h.ql)
  have hb := grown_below hg h.mb hb0
  have hc : ∀ k, w'.cell? ⟨q, k, none⟩ = w.cell? ⟨q, k, none⟩ := fun k => grown_cell hg (p := ⟨q, k, none⟩) h.ql h.qm
  exact ⟨h.hrs.call (hb.mono h.bB), fun i hi => (hb.cell (p := ⟨1, i, none⟩) h.rb).trans (h.rom i hi), h.bB, h.rb, h.qb, h.mb, h.qm, Nat.lt_of_lt_of_le h.ql hg.size, fun k hk => (hc k).trans (h.cells k hk), (hc 7).trans h.c7, (hc 8).trans h.c8, hm, hy⟩
theorem DeskR.call {B b0 q m n : Nat} {H : Hrs} {s : Nat → Value} {vh : Value} {w w' : World} {f : Int → Option Value} (h : DeskR B H s vh b0 w q m n f) (hb : Below w.heap.size w w') : DeskR B H s vh b0 w' q m n f :=
  h.turn (below_grown hb) (h.map.call hb) fun y v hv => by
    obtain ⟨l, g1, g2⟩ := h.years y v hv
    exact ⟨l, g1.call hb, g2⟩
/-- What year answers, and day. -/
def YearPost (B : Nat) (H : Hrs) (s : Nat → Value) (vh : Value) (b0 : Nat) (w : World) (q m n : Nat) (y : Int) (e : Ending) (w' : World) : Prop :=
  ∃ v l n' f', e = .returned v ∧ IntL w' b0 v l ∧ (∀ t, t ∈ l ↔ HolD H.hols y t) ∧ DeskR B H s vh b0 w' q m n' f' ∧ n' ≤ n + 1 ∧ w.grownBy w' (some m)
theorem Tryz.zeroInts (w : World) : (zeroValue 27).run Tryz.prog w = .ok (.slice none 0 0) w := by kernel_rfl
set_option maxRecDepth 100000 in
set_option maxHeartbeats 16000000 in
theorem deskYear_any {B b0 q m n : Nat} {H : Hrs} {s : Nat → Value} {vh : Value} {w : World} {f : Int → Option Value} (hD : DeskR B H s vh b0 w q m n f) (hc : chk H = 0) (y : Int) (h1 : 1 ≤ y) (h2 : y ≤ 9999) (hn : n ≤ 1000000) :
    Calls Tryz.prog 74 #[.pointer (some ⟨q, 0, none⟩), .int .i64 y] w (YearPost B H s vh b0 w q m n y) := by
  have wf : (Lit.int .i64 y).wf = true := WalkArith.wf_i64 (by omega)
  have c8 := hD.c8
  have HM := Lib.hid hD.map
  cases hf : f y with
  | some v =>
    obtain ⟨l, g1, g2⟩ := hD.years y v hf
    have HP : Hid (YearPost B H s vh b0 w q m n y (.returned v) w) := Lib.hid ⟨v, l, n, f, rfl, g1, g2, hD, Nat.le_succ _, below_grown (Below.refl _ _)⟩
    have HF := Lib.hid hf
    clear g1 g2 hD hf
    unfold YearPost at *
    go_enter Tryz.func74, Tryz.ntmps74
    go_wp2_with (at_lookup; refine wpList_lookup_tok _ rfl _ _ 120 rfl 3 27 Tryz.underlying3 Tryz.underlying120 (Tryz.zeroInts _) m n f rfl HM.out y rfl wf ?_; rw [HF.out])
    go_ret
    exact HP.out
  | none =>
    have c0 := hD.cells 0 (by decide)
    have c1 := hD.cells 1 (by decide)
    have c2 := hD.cells 2 (by decide)
    have c3 := hD.cells 3 (by decide)
    have c4 := hD.cells 4 (by decide)
    have c5 := hD.cells 5 (by decide)
    have c6 := hD.cells 6 (by decide)
    have c7 := hD.c7
    have hb0 : b0 ≤ w.heap.size := Nat.le_of_lt (Nat.lt_of_le_of_lt hD.qb hD.ql)
    have CH := Lib.hid (holidays_any B H s vh y w hD.rom hD.hrs (Nat.le_trans hD.bB hb0) hc h1 h2)
    unfold hoursV at CH
    have HD := Lib.hid hD
    have HF := Lib.hid hf
    have HB0 := Lib.hid hb0
    have HQL := Lib.hid hD.ql
    clear hf hb0 hD hc
    go_enter Tryz.func74, Tryz.ntmps74
    go_upto_region 4 with (first
      | (at_lookup; refine wpList_lookup_tok _ rfl _ _ 120 rfl 3 27 Tryz.underlying3 Tryz.underlying120 (Tryz.zeroInts _) m n f rfl HM.out y rfl wf ?_; rw [HF.out])
      | (go_at_call 38; (with_reducible refine (CH.out).mono ?_); rintro e w2 ⟨v, l, rfl, hL, -, hmem, hb2⟩; have HL := Lib.hid hL; have HMEM := Lib.hid hmem; have HB2 := Lib.hid hb2; clear hL hmem hb2))
    have k8 := (HB2.out.cell (p := ⟨q, 8, none⟩) HQL.out).trans c8
    have HM2 := Lib.hid (HM.out.call HB2.out)
    clear c0 c1 c2 c3 c4 c5 c6 c7 c8
    go_wp2_with (at_mapUpdate; refine wpList_mapUpdate_tok _ rfl _ _ _ 120 rfl 3 27 Tryz.underlying3 Tryz.underlying120 m n f rfl HM2.out (by unfold maxLen; omega) y v rfl rfl wf ?_; intro w3 hm3 hg3)
    have HL3 : Hid (IntL w3 b0 v l) := Lib.hid ((HL.out.low HB0.out).kept hg3 ((HL.out.low HB0.out).apart HM2.out))
    have HY3 : Hid (Years H b0 w3 (fun p => if p = y then some v else f p)) := Lib.hid (by
      intro p u hu
      dsimp only at hu
      by_cases e : p = y
      · rw [if_pos e] at hu
        cases hu
        subst e
        exact ⟨l, HL3.out, HMEM.out⟩
      · rw [if_neg e] at hu
        obtain ⟨l2, g1, g2⟩ := HD.out.years p u hu
        have g3 := g1.call HB2.out
        exact ⟨l2, g3.kept hg3 (g3.apart HM2.out), g2⟩)
    have HG : Hid (w.grownBy w3 (some m)) := Lib.hid ((below_grown HB2.out).trans hg3)
    have HP : Hid (YearPost B H s vh b0 w q m n y (.returned v) w3) := Lib.hid ⟨v, l, n + 1, _, rfl, HL3.out, HMEM.out, HD.out.turn HG.out hm3 HY3.out, Nat.le_refl _, HG.out⟩
    clear hm3 hg3
    unfold YearPost at *
    go_wp2_with fail
    go_ret
    exact HP.out
end Go.Proofs.YtbgcccfgcdkmdaaGreatDoor
namespace Go.Proofs.YtbgcccfgcdkmdaaGreatDoor
open Go.RowKit Wrk
set_option maxRecDepth 100000 in
set_option maxHeartbeats 8000000 in
theorem newDesk_bad (B : Nat) (H : Hrs) (s : Nat → Value) (vh : Value) (w : World) (hr : RomanT w) (hR : HrsR B w s vh H) (hB : B ≤ w.heap.size) (hc : chk H ≠ 0) : Calls Tryz.prog 56 #[hoursV s vh] w fun e w' => e = .returned (.tuple #[.pointer none, errV (chk H)]) ∧ Below w.heap.size w w' := by
  obtain ⟨wB, hwB, ⟨hb0, hlt⟩, f0, f1, f2, f3, f4, f5, f6, f7⟩ := hours_cells s vh w
  have HB0 := Lib.hid hb0
  have CC := Lib.hid (check_any B H s vh wB (RomanT.call hr hb0) (hR.call (hb0.mono hB)) (Nat.le_trans hB hb0.size))
  obtain ⟨E, hE⟩ : ∃ E, chk H = E := ⟨_, rfl⟩
  rw [hE] at hc CC ⊢
  have HI := Lib.hid (errV_hit hc)
  rw [HI.out] at CC
  unfold hoursV at CC
  unfold hoursV
  clear hb0 hlt hr hR hB hE hc
  go_enter Tryz.func56, Tryz.ntmps56
  go_wp2_with (go_at_call 28; refine (CC.out).mono ?_; rintro e w2 ⟨rfl, hb2⟩; have HB2 := Lib.hid hb2; clear hb2)
  go_ret2
  exact ⟨by rw [HI.out]; rfl, thenB HB0.out HB2.out⟩
set_option maxRecDepth 100000 in
set_option maxHeartbeats 8000000 in
theorem newDesk_any (B : Nat) (H : Hrs) (s : Nat → Value) (vh : Value) (w : World) (hr : RomanT w) (hR : HrsR B w s vh H) (hB : B ≤ w.heap.size) (hc : chk H = 0) : Calls Tryz.prog 56 #[hoursV s vh] w fun e w' => ∃ q m, e = .returned (.tuple #[.pointer (some ⟨q, 0, none⟩), .nilIface]) ∧ DeskR B H s vh w.heap.size w' q m 0 (fun _ => none) ∧ Below w.heap.size w w' := by
  obtain ⟨wB, hwB, ⟨hb0, hlt⟩, f0, f1, f2, f3, f4, f5, f6, f7⟩ := hours_cells s vh w
  have HB0 := Lib.hid hb0
  have HLT := Lib.hid hlt
  have CC := Lib.hid (check_any B H s vh wB (RomanT.call hr hb0) (hR.call (hb0.mono hB)) (Nat.le_trans hB hb0.size))
  rw [hc, errV_nil] at CC
  unfold hoursV at CC
  unfold hoursV
  have HFIN : Hid (∀ w2, Below wB.heap.size wB w2 → (DeskR B H s vh w.heap.size ((w2.alloc (.map #[] 0)).alloc (.cells #[s 0, s 1, s 2, s 3, s 4, s 5, s 6, vh, .map (some w2.heap.size)] 122)) (w2.heap.size + 1) w2.heap.size 0 (fun _ => none) ∧ Below w.heap.size w ((w2.alloc (.map #[] 0)).alloc (.cells #[s 0, s 1, s 2, s 3, s 4, s 5, s 6, vh, .map (some w2.heap.size)] 122)))) := Lib.hid fun w2 hb2 => by
    have h1 := thenB hb0 hb2
    have h2 := h1.alloc h1.size (.map #[] 0)
    have h3 := h2.alloc h2.size (.cells #[s 0, s 1, s 2, s 3, s 4, s 5, s 6, vh, .map (some w2.heap.size)] 122)
    exact ⟨{ hrs := hR.call (h3.mono hB), rom := RomanT.call hr h3, bB := hB, rb := hr.lt, qb := Nat.le_succ_of_le h1.size, mb := h1.size, qm := by omega, ql := by simp
             cells := fun k hk => seven (P := fun k => World.cell? ((w2.alloc (.map #[] 0)).alloc (.cells #[s 0, s 1, s 2, s 3, s 4, s 5, s 6, vh, .map (some w2.heap.size)] 122)) ⟨w2.heap.size + 1, k, none⟩ = some (s k)) (by simp) (by simp) (by simp) (by simp) (by simp) (by simp) (by simp) k hk
             c7 := by simp
             c8 := by simp
             map := (MapI.made Tryz.prog 3 w2).call ((Below.refl _ _).alloc (Nat.le_refl _) _)
             years := fun y v h => by cases h }, h3⟩
  have hmm := @run_makeMap Tryz.prog
  have HS : Hid (∀ w', Below wB.heap.size wB w' → (w'.cell? ⟨w.heap.size, 0, none⟩ = some (s 0) ∧ w'.cell? ⟨w.heap.size, 1, none⟩ = some (s 1) ∧ w'.cell? ⟨w.heap.size, 2, none⟩ = some (s 2) ∧ w'.cell? ⟨w.heap.size, 3, none⟩ = some (s 3) ∧ w'.cell? ⟨w.heap.size, 4, none⟩ = some (s 4) ∧ w'.cell? ⟨w.heap.size, 5, none⟩ = some (s 5) ∧ w'.cell? ⟨w.heap.size, 6, none⟩ = some (s 6) ∧ w'.cell? ⟨w.heap.size, 7, none⟩ = some vh)) := Lib.hid fun w' hb =>
    ⟨(hb.cell (p := ⟨w.heap.size, 0, none⟩) HLT.out).trans f0, (hb.cell (p := ⟨w.heap.size, 1, none⟩) HLT.out).trans f1, (hb.cell (p := ⟨w.heap.size, 2, none⟩) HLT.out).trans f2, (hb.cell (p := ⟨w.heap.size, 3, none⟩) HLT.out).trans f3, (hb.cell (p := ⟨w.heap.size, 4, none⟩) HLT.out).trans f4, (hb.cell (p := ⟨w.heap.size, 5, none⟩) HLT.out).trans f5, (hb.cell (p := ⟨w.heap.size, 6, none⟩) HLT.out).trans f6, (hb.cell (p := ⟨w.heap.size, 7, none⟩) HLT.out).trans f7⟩
  clear hb0 hlt hr hR hB hc
  go_enter Tryz.func56, Tryz.ntmps56
  go_upto_region 4 with (go_at_call 28; refine (CC.out).mono ?_; rintro e w2 ⟨rfl, hb2⟩; have HB2 := Lib.hid hb2; clear hb2)
  clear f0 f1 f2 f3 f4 f5 f6 f7 hwB
  obtain ⟨g0, g1, g2, g3, g4, g5, g6, g7⟩ := HS.out _ HB2.out
  go_wp2_with fail
  go_ret2
  exact ⟨_, _, rfl, HFIN.out w2 HB2.out⟩
set_option maxRecDepth 100000 in
set_option maxHeartbeats 8000000 in
theorem deskThere_any (t : Int) (w : World) (hr : RomanT w) : Calls Tryz.prog 47 #[.int .i64 t] w fun e w' => e = .returned (.bool (thereB t)) ∧ Below w.heap.size w w' := by
  have C1 : Hid (∀ w0, RomanT w0 → Calls Tryz.prog 72 #[.int .i64 2] w0 fun e w' => e = .returned (.int .i64 (y1 2)) ∧ Below w0.heap.size w0 w') := Lib.hid fun w0 h => first_year 2 w0 h (by omega) (by omega)
  have C2 : Hid (∀ w0, RomanT w0 → Calls Tryz.prog 72 #[.int .i64 9999] w0 fun e w' => e = .returned (.int .i64 (y1 9999)) ∧ Below w0.heap.size w0 w') := Lib.hid fun w0 h => first_year 9999 w0 h (by omega) (by omega)
  have HR := Lib.hid hr
  have HT : Hid (∀ a b, y1 2 = a → y1 9999 = b → ((a ≤ t ∧ t < b) → thereB t = true) ∧ (¬ (a ≤ t ∧ t < b) → thereB t = false)) := Lib.hid (by
    intro a b ha hb
    subst ha hb
    exact ⟨fun h => decide_eq_true h, fun h => decide_eq_false h⟩)
  obtain ⟨a, ha⟩ : ∃ a, y1 2 = a := ⟨_, rfl⟩
  obtain ⟨b, hb⟩ : ∃ b, y1 9999 = b := ⟨_, rfl⟩
  rw [ha] at C1
  rw [hb] at C2
  have HT2 := Lib.hid (HT.out a b ha hb)
  clear ha hb hr HT
  by_cases h1 : a ≤ t
  · by_cases h2 : t < b
    · rw [HT2.out.1 ⟨h1, h2⟩]
      go_enter Tryz.func47, Tryz.ntmps47
      go_wp2_with (first
        | (go_at_call 72; (with_reducible refine (C1.out _ HR.out).mono ?_); rintro e w2 ⟨rfl, hb2⟩; have HB2 := Lib.hid hb2; clear hb2)
        | (go_at_call 72; (with_reducible refine (C2.out _ (RomanT.call HR.out HB2.out)).mono ?_); rintro e w3 ⟨rfl, hb3⟩; have HB3 := Lib.hid (thenB HB2.out hb3); clear hb3))
      go_ret
      exact ⟨rfl, HB3.out⟩
    · rw [HT2.out.2 fun h => h2 h.2]
      have d2 : decide (t < b) = false := decide_eq_false h2
      go_enter Tryz.func47, Tryz.ntmps47
      go_wp2_with (first
        | (go_at_call 72; (with_reducible refine (C1.out _ HR.out).mono ?_); rintro e w2 ⟨rfl, hb2⟩; have HB2 := Lib.hid hb2; clear hb2)
        | (go_at_call 72; (with_reducible refine (C2.out _ (RomanT.call HR.out HB2.out)).mono ?_); rintro e w3 ⟨rfl, hb3⟩; have HB3 := Lib.hid (thenB HB2.out hb3); clear hb3))
      go_ret
      exact ⟨rfl, HB3.out⟩
  · rw [HT2.out.2 fun h => h1 h.1]
    go_enter Tryz.func47, Tryz.ntmps47
    go_wp2_with (first
      | (go_at_call 72; (with_reducible refine (C1.out _ HR.out).mono ?_); rintro e w2 ⟨rfl, hb2⟩; have HB2 := Lib.hid hb2; clear hb2))
    go_ret
    exact ⟨rfl, HB2.out⟩
/-- What day answers. -/
def DayPost (B : Nat) (H : Hrs) (s : Nat → Value) (vh : Value) (b0 : Nat) (w : World) (q m n : Nat) (t : Int) (e : Ending) (w' : World) : Prop :=
  ∃ n' f', e = .returned (dayV H s t) ∧ DeskR B H s vh b0 w' q m n' f' ∧ n' ≤ n + 3 ∧ w.grownBy w' (some m)
set_option maxRecDepth 100000 in
set_option maxHeartbeats 16000000 in
theorem day_any {B b0 q m n : Nat} {H : Hrs} {s : Nat → Value} {vh : Value} {w : World} {f : Int → Option Value} (hD : DeskR B H s vh b0 w q m n f) (hc : chk H = 0) (t : Int) (ht : There t) (hn : n ≤ 900000) :
    Calls Tryz.prog 48 #[.pointer (some ⟨q, 0, none⟩), .int .i64 t] w (DayPost B H s vh b0 w q m n t) := by
  have hb2 := y1_bd 2 (by omega) (by omega)
  have hb9 := y1_bd 9999 (by omega) (by omega)
  have htb : -800000 ≤ t ∧ t ≤ 3000000 := by unfold There at ht; omega
  have hL : ∀ x, x ∈ H.hols → hE x = 0 := chk_hE hc
  have CO : Hid (∀ w0, RomanT w0 → Calls Tryz.prog 70 #[.int .i64 1, .int .i64 t] w0 fun e w' => (∃ Y mm dd, e = .returned (.tuple #[.agg #[.int .i64 1, .int .i64 Y, .int .i64 mm, .int .i64 dd], .nilIface]) ∧ (2 ≤ Y ∧ Y ≤ 9998) ∧ (y1 Y ≤ t ∧ t < y1 (Y + 1))) ∧ Below w0.heap.size w0 w') := Lib.hid fun w0 h => (dof_all 1 t w0 h).mono fun e w' ⟨a, Y, mm, dd, g1, g2, g3⟩ => by
    have e0 := ofE_ok (c := 1) (n := t) (by omega) (by omega) (by omega) (by omega)
    rcases g2 with ⟨g, -⟩ | ⟨-, rfl, -, -, gv, gd⟩
    · exact absurd e0 g
    · have hi := Dm.in_year 1 Y mm dd (by omega) (by omega) gv
      have hy : y1 Y ≤ t ∧ t < y1 (Y + 1) := by unfold y1; omega
      refine ⟨⟨Y, mm, dd, by rw [g1, e0, errV_nil]; rfl, year_at ht hy.1 hy.2 (by have := gv.1; have := of_year (by omega) (by omega) gv gd; omega) (by have := of_year (by omega) (by omega) gv gd; omega), hy⟩, g3⟩
  have HDK := Lib.hid hD
  have HYB : Hid (∀ y w0 n' f', DeskR B H s vh b0 w0 q m n' f' → 1 ≤ y → y ≤ 9999 → n' ≤ 1000000 → Calls Tryz.prog 74 #[.pointer (some ⟨q, 0, none⟩), .int .i64 y] w0 (YearPost B H s vh b0 w0 q m n' y)) := Lib.hid fun y w0 n' f' h g1 g2 g3 => deskYear_any h hc y g1 g2 g3
  have HNEAR : Hid (∀ y Y, 1 ≤ y → y ≤ 9999 → HolD H.hols y t → 2 ≤ Y → Y ≤ 9998 → y1 Y ≤ t → t < y1 (Y + 1) → Y - 1 ≤ y ∧ y ≤ Y + 1) := Lib.hid fun y Y g1 g2 g3 g4 g5 g6 g7 => HolD_years hL g1 g2 g3 (by omega) (by omega) g6 g7
  have CW : Hid (∀ k (w0 : World), Calls Tryz.prog 75 #[.int .i64 t] (w0.drewN k) fun e w' => e = .returned (.int .i64 (Dm.wd t)) ∧ w' = w0.drewN k) := Lib.hid fun k w0 => (weekday_any _ _ (InI.mk (by omega) (by omega))).mono fun e w' ⟨h1, h2⟩ => ⟨h1, h2.symm⟩
  obtain ⟨j, hj⟩ : ∃ j : Nat, Dm.wd t = (j : Int) + 1 := ⟨(Dm.wd t - 1).toNat, by have := Dm.wd_bd t; omega⟩
  have hj7 : j < 7 := by have := Dm.wd_bd t; omega
  have HDV : Hid (∀ b, freeB H.hols t = b → dayV H s t = if b then .slice none 0 0 else s j) := Lib.hid fun b hb => by unfold dayV; rw [hb, hj]; congr 1; congr 1; omega
  rw [hj] at CW
  have HFT : Hid (∀ y, 1 ≤ y → y ≤ 9999 → HolD H.hols y t → freeB H.hols t = true) := Lib.hid fun y g1 g2 g3 => freeB_true.2 ⟨y, g1, g2, g3⟩
  have HFF : Hid ((∀ y, 1 ≤ y → y ≤ 9999 → ¬ HolD H.hols y t) → freeB H.hols t = false) := Lib.hid fun h => freeB_false.2 fun ⟨y, g1, g2, g3⟩ => h y g1 g2 g3
  have HBB : Hid (b0 ≤ w.heap.size) := Lib.hid (Nat.le_of_lt (Nat.lt_of_le_of_lt hD.qb hD.ql))
  have HMS : Hid (m < w.heap.size) := Lib.hid hD.map.lt
  obtain ⟨P, hP⟩ : ∃ P : Int → Prop, ∀ y, HolD H.hols y t ↔ P y := ⟨_, fun y => Iff.rfl⟩
  unfold DayPost
  obtain ⟨V, hV⟩ : ∃ V, dayV H s t = V := ⟨_, rfl⟩
  rw [hV] at HDV ⊢
  have HP := Lib.hid hP
  simp only [hP] at HNEAR HFT HFF
  clear hb2 hb9 hL hc hD hj hV hP ht
  go_enter Tryz.func48, Tryz.ntmps48
  go_upto_region 4 with (go_at_call 70; (with_reducible refine (CO.out _ HDK.out.rom).mono ?_); rintro e w2 ⟨⟨Y, mm, dd, rfl, hY, hy⟩, hb2⟩; have HY := Lib.hid hy; have HB2 := Lib.hid hb2; clear hb2 hy)
  obtain ⟨z5, hz5⟩ : ∃ z, w2.heap.size = z := ⟨_, rfl⟩
  obtain ⟨wA, hwA⟩ : ∃ W, w2.alloc (.cells #[.int .i64 1, .int .i64 Y, .int .i64 mm, .int .i64 dd] 89) = W := ⟨_, rfl⟩
  have hA : Below w2.heap.size w2 wA := by rw [← hwA]; exact (Below.refl _ _).alloc (Nat.le_refl _) _
  have HBA := Lib.hid (thenB HB2.out hA)
  have HDA := Lib.hid (HDK.out.call HBA.out)
  have c1 : wA.cell? ⟨z5, 1, none⟩ = some (.int .i64 Y) := by rw [← hwA, ← hz5]; simp
  have HZ5 : Hid (z5 < wA.heap.size ∧ z5 ≠ m) := Lib.hid ⟨by rw [← hwA, ← hz5]; simp, by have := HMS.out; have := HB2.out.size; omega⟩
  have HC1 := Lib.hid c1
  have a1 : wrap64 (Y - 1) = Y - 1 := wrap_in (InI.mk (by omega) (by omega))
  rw [hwA, hz5]
  clear hA hwA hz5
  go_wp2_with fail
  clear c1
  go_loopw [7] (fun c wr => ∃ (k n' : Nat) (f' : Int → Option Value), c = .int .i64 (Y - 1 + k) ∧ k ≤ 3 ∧ n' ≤ n + k ∧ Hid (DeskR B H s vh b0 wr q m n' f') ∧ Hid (w.grownBy wr (some m)) ∧ Hid (∀ i : Nat, i < k → ¬ P (Y - 1 + i)) ∧ Hid (wr.cell? ⟨z5, 1, none⟩ = some (.int .i64 Y) ∧ z5 < wr.heap.size)) (fun c _ => (Y + 2 - intOf c).toNat)
  case atStart => exact ⟨0, n, f, by simp, by omega, by omega, HDA, Lib.hid (below_grown HBA.out), Lib.hid (fun i hi => absurd hi (Nat.not_lt_zero i)), Lib.hid ⟨HC1.out, HZ5.out.1⟩⟩
  case round =>
    obtain ⟨k, n', f', rfl, hk, hn', HD, HG, HN, HC⟩ := hrel
    have c1 := HC.out.1
    have a2 : wrap64 (Y + 1) = Y + 1 := wrap_in (InI.mk (by omega) (by omega))
    by_cases hk3 : k < 3
    · have k1 : Y - 1 + (k : Int) ≤ Y + 1 := by omega
      have CY := Lib.hid (HYB.out (Y - 1 + k) wr n' f' HD.out (by omega) (by omega) (by omega))
      have a3 : wrap64 (Y - 1 + (k : Int) + 1) = Y - 1 + (k : Int) + 1 := wrap_in (InI.mk (by omega) (by omega))
      by_cases hp : P (Y - 1 + k)
      · have HV := Lib.hid ((HDV.out true (HFT.out _ (by omega) (by omega) hp)).trans (if_pos rfl))
        have HPK := Lib.hid hp
        clear hp
        unfold YearPost at CY
        go_wp2_with (first
          | (go_at_call 74; refine (CY.out).mono ?_; rintro e w3 ⟨v, l, n2, f2, rfl, hl, hm, hd, hn2, hg⟩; have HL := Lib.hid hl; have HM := Lib.hid hm; have HD2 := Lib.hid hd; have HG2 := Lib.hid hg; clear hl hm hd hg)
          | (go_at_call 73; refine (contains_any _ _ t _ b0 HL.out HL.out.lenM).mono ?_; rintro e w4 ⟨rfl, rfl⟩; rw [decide_eq_true ((HM.out t).2 ((HP.out _).2 HPK.out))]))
        go_ret
        exact ⟨n2, f2, by rw [HV.out]; rfl, HD2.out, by omega, HG.out.trans HG2.out⟩
      · have HPK := Lib.hid hp
        clear hp
        unfold YearPost at CY
        go_wp2_with (first
          | (go_at_call 74; refine (CY.out).mono ?_; rintro e w3 ⟨v, l, n2, f2, rfl, hl, hm, hd, hn2, hg⟩; have HL := Lib.hid hl; have HM := Lib.hid hm; have HD2 := Lib.hid hd; have HG2 := Lib.hid hg; clear hl hm hd hg)
          | (go_at_call 73; refine (contains_any _ _ t _ b0 HL.out HL.out.lenM).mono ?_; rintro e w4 ⟨rfl, rfl⟩; rw [decide_eq_false (fun h => HPK.out ((HP.out _).1 ((HM.out t).1 h)))]))
        have HN2 : Hid (∀ i : Nat, i < k + 1 → ¬ P (Y - 1 + i)) := Lib.hid fun i hi => by
          by_cases e : i = k
          · subst e; exact HPK.out
          · exact HN.out i (by omega)
        have HC2 : Hid (w4.cell? ⟨z5, 1, none⟩ = some (.int .i64 Y) ∧ z5 < w4.heap.size) := Lib.hid ⟨(grown_cell HG2.out (p := ⟨z5, 1, none⟩) HC.out.2 HZ5.out.2).trans HC.out.1, Nat.lt_of_lt_of_le HC.out.2 HG2.out.size⟩
        have HG3 := Lib.hid (HG.out.trans HG2.out)
        clear c1
        go_roundw
        case rel => exact ⟨k + 1, n2, f2, by congr 1; omega, by omega, by omega, HD2, HG3, HN2, HC2⟩
        case measure => simp [intOf]; omega
    · have hk' : k = 3 := by omega
      subst hk'
      have HV := Lib.hid ((HDV.out false (HFF.out fun y g1 g2 g3 => by
        have := HNEAR.out y Y g1 g2 g3 (by omega) (by omega) HY.out.1 HY.out.2
        exact HN.out (y - (Y - 1)).toNat (by omega) (by rw [show Y - 1 + (((y - (Y - 1)).toNat : Nat) : Int) = y by omega]; exact g3))).trans (if_neg (by decide)))
      have sj := HD.out.cells j hj7
      have b1 : IntKind.i64.wrap ((j : Int) + 1 - 1) = (j : Int) := by rw [show (j : Int) + 1 - 1 = (j : Int) by omega]; exact IntWalk.i64_in _ (by omega)
      have b2 : (j : Int) < 7 := by omega
      have b3 : (0 : Int) ≤ (j : Int) := by omega
      have HEND := Lib.hid (fun nq => And.intro (HD.out.call (belowN (Below.refl _ _) nq)) (HG.out.trans (below_grown (row := some m) (belowN (Below.refl wr.heap.size wr) nq))))
      go_upto_region 9 with fail
      go_quiet ((go_at_call 75; exact Calls.quiet_of_same (CW.out _ _)))
      go_wp2_with fail
      go_ret
      exact ⟨n', f', by rw [HV.out]; rfl, (HEND.out _).1, by omega, (HEND.out _).2⟩
end Go.Proofs.YtbgcccfgcdkmdaaGreatDoor
namespace Go.Proofs.YtbgcccfgcdkmdaaGreatDoor
open Go.RowKit Wrk
def spanV (L : List (Int × Int)) : List Value := L.flatMap fun p => [.int .i64 p.1, .int .i64 p.2]
theorem spanV_get : ∀ (l : List (Int × Int)) (i j : Nat), i < l.length → j < 2 → (spanV l)[i * 2 + j]? = [Value.int .i64 (l.getD i (0, 0)).1, Value.int .i64 (l.getD i (0, 0)).2][j]? := by
  intro l
  induction l with
  | nil => intro i j h; simp at h
  | cons b l ih =>
    intro i j h hj
    unfold spanV
    rw [List.flatMap_cons]
    cases i with
    | zero => rw [List.getElem?_append_left (by simp; omega)]; simp
    | succ i =>
      rw [List.getElem?_append_right (by simp; omega)]
      have := ih i j (by simpa using h) hj
      unfold spanV at this
      rw [show (i + 1) * 2 + j - [Value.int .i64 b.1, Value.int .i64 b.2].length = i * 2 + j by simp; omega, this]
      simp
theorem spanV_len (l : List (Int × Int)) : (spanV l).length = l.length * 2 := by
  induction l with
  | nil => rfl
  | cons b l ih => unfold spanV at *; rw [List.flatMap_cons, List.length_append, ih, List.length_cons]; simp; omega
theorem spanV_one (l : List (Int × Int)) : ∀ u, u ∈ spanV l → u.oneCell' = true := by
  intro u hu
  obtain ⟨p, _, hp⟩ := List.mem_flatMap.1 hu
  simp at hp
  rcases hp with rfl | rfl <;> rfl
theorem VSp.news {B : Nat} {w : World} {oa : Option Addr} {n cap : Nat} {L : List (Int × Int)} (h : VSp B w (.slice oa n cap) L) {a : Addr} (ha : oa = some a) :
    (Value.slice oa n cap = .slice none 0 0 ∧ L.length = 0 ∧ spanV L = []) ∨ ∃ ad c, Value.slice oa n cap = .slice (some ad) L.length c ∧ (spanV L).length = L.length * 2 ∧ (∀ j u, (spanV L)[j]? = some u → w.cell? (ad.add j) = some u) ∧ ∀ u ∈ spanV L, u.oneCell' = true := by
  obtain ⟨ob, c, h1, h2, h3⟩ := h
  simp only [Value.slice.injEq] at h1
  obtain ⟨rfl, rfl, rfl⟩ := h1
  subst ha
  refine .inr ⟨a, _, rfl, spanV_len L, fun j u hj => ?_, spanV_one L⟩
  have hlt : j < L.length * 2 := by rw [← spanV_len L]; exact (List.getElem?_eq_some_iff.1 hj).1
  obtain ⟨g1, g2⟩ := (h3 a rfl).2 (j / 2) (by omega)
  rcases Nat.mod_two_eq_zero_or_one j with e | e
  · have hj2 : j = j / 2 * 2 + 0 := by omega
    rw [hj2, spanV_get L (j / 2) 0 (by omega) (by omega)] at hj
    rw [show j = j / 2 * 2 by omega, g1, ← hj]
    rfl
  · have hj2 : j = j / 2 * 2 + 1 := by omega
    rw [hj2, spanV_get L (j / 2) 1 (by omega) (by omega)] at hj
    rw [hj2, ← Go.Deep.add_add, g2, ← hj]
    rfl
theorem VSp.own {w : World} {b : Nat} {v : Value} {L : List (Int × Int)} (h : w.ownsRow b 47 2 v L.length (spanV L)) : VSp w.heap.size w v L := by
  have hcells := fun (g : Nat) (hg : v.ownBlock = some g) => h.cells hg
  rcases h.2 with ⟨rfl, h0⟩ | ⟨g, cap, cur, rfl, hb, hh, hc1, hc2, _⟩
  · exact ⟨none, 0, by rw [h0], fun h => absurd h (by omega), fun a h => by cases h⟩
  · refine ⟨some ⟨g, 0, none⟩, cap, rfl, fun _ => ⟨_, rfl⟩, fun a ha => ?_⟩
    injection ha with ha
    subst ha
    refine ⟨fun _ => (Array.getElem?_eq_some_iff.1 hh).1, fun i hi => ⟨?_, ?_⟩⟩
    · have := hcells g rfl (i * 2 + 0) _ (spanV_get L i 0 hi (by omega))
      simpa using this
    · have := hcells g rfl (i * 2 + 1) _ (spanV_get L i 1 hi (by omega))
      rw [Go.Deep.add_add]
      simpa using this
/-- append of a row that may be empty. -/
theorem wpList_append_anyM {P : Program} {w : World} {ops : Array Oper} {rest : List Oper} {o : Oper} {a : Act} {Q : Exit → Act → World → Prop} (hgd : o.guard = none) (s x : Operand) (t : TypeId)
    (ho : o.op = .call { callee := .builtin .append, args := #[s, x], argTypes := #[t, t] })
    (base : Nat) (e : TypeId) (i : TypeInfo) (z : Value) (size bytes : Nat) (ht : P.underlying t = some (.slice e)) (hi : P.info? e = some i) (hz : i.zero = some z)
    (hsize : i.size = size) (hby : i.bytes = bytes) (hzs : z.cells.size = size) (hsz : 0 < size)
    (v : Value) (n : Nat) (xs : List Value) (hs : a.eval s = v) (hown : w.ownsRow base e size v n xs)
    (xv : Value) (m : Nat) (news : List Value) (hx : a.eval x = xv)
    (hxv : (xv = .slice none 0 0 ∧ m = 0 ∧ news = []) ∨ ∃ ad c, xv = .slice (some ad) m c ∧ news.length = m * size ∧ (∀ j u, news[j]? = some u → w.cell? (ad.add j) = some u) ∧ ∀ u ∈ news, u.oneCell' = true)
    (h63 : n + m ≤ maxLen) (hbytes : (n + m) * bytes ≤ 140737488355328) (hbase : base ≤ w.heap.size)
    (h : ∀ v' w', w'.ownsRow base e size v' (n + m) (xs ++ news) → w.grownBy w' v.ownBlock → wpList P ops Q rest (a.put o.dst v') w') : wpList P ops Q (o :: rest) a w := by
  rcases hxv with ⟨h1, rfl, rfl⟩ | ⟨ad, c, h1, h2, h3, h4⟩
  · exact wpList_append_own_none hgd s x t ho base e i size ht hi v n xs hs hown (hx.trans h1) (h v w (by simpa using hown) ⟨rfl, rfl, rfl, Nat.le_refl _, fun _ _ _ => rfl⟩)
  · exact wpList_append_own w hgd s x t ho base e i z size bytes ht hi hz hsize hby hzs hsz v n xs hs hown ad m c news (hx.trans h1) h2 h3 h4 h63 hbytes hbase fun v' w' a b _ => h v' w' a b
theorem span_info2 : (Tryz.prog.info? 47).map (fun i => (i.zero, i.size, i.bytes)) = some (some (.agg #[.int .i64 0, .int .i64 0]), 2, 16) := by kernel_rfl
set_option maxRecDepth 100000 in
set_option maxHeartbeats 4000000 in
theorem cloneSp_any (v : Value) (B : Nat) (l : List (Int × Int)) (w : World) (hl : l.length ≤ 1000000000) (hB : B ≤ w.heap.size) (h : VSp B w v l) :
    Calls Tryz.prog 57 #[v] w fun e w' => ∃ v', e = .returned v' ∧ VSp w'.heap.size w' v' l ∧ Below w.heap.size w w' := by
  obtain ⟨ob, cap, rfl⟩ := h.form
  obtain ⟨n, hn⟩ : ∃ n, l.length = n := ⟨_, rfl⟩
  have HN := Lib.hid hn
  rw [hn] at hl h ⊢
  have q22 : ∀ (w : World) (a : Option Addr) (n c n' c' : Nat), (binOp .eql 22 (.slice a n c) (.slice none n' c')).run Tryz.prog w = .ok (.bool a.isNone) w := fun w a n c n' c' => Lib.run_eql_slice_nil w _ _ a n c n' c' Tryz.underlying22
  cases ob with
  | none =>
    have h0 : l = [] := by
      obtain ⟨ob, c, h1, h2, -⟩ := h
      simp only [Value.slice.injEq] at h1
      obtain ⟨rfl, -, -⟩ := h1
      rcases Nat.eq_zero_or_pos l.length with g | g
      · exact List.length_eq_zero_iff.1 g
      · obtain ⟨a, ha⟩ := h2 g; cases ha
    have H0 := Lib.hid h0
    clear h h0 hn
    go_enter Tryz.func57, Tryz.ntmps57
    go_wp2_with fail
    go_ret
    exact ⟨_, rfl, by rw [H0.out]; exact VSp.nil _ _, Below.refl _ _⟩
  | some a =>
    have H := Lib.hid (h.call (show Below B w (w.alloc (.cells #[] 47)) from (Below.refl B w).alloc hB _))
    obtain ⟨i0, hi0, hz0, hz1, hz2⟩ := info_parts span_info2
    clear h hn
    go_enter Tryz.func57, Tryz.ntmps57
    go_wp2_with (at_builtin; refine wpList_append_anyM rfl (.tmp 5) (.tmp 6) 22 rfl w.heap.size 47 i0 (.agg #[.int .i64 0, .int .i64 0]) 2 16 Tryz.underlying22 hi0 hz0 hz1 hz2 rfl (by decide) (.slice (some ⟨w.heap.size, 0, none⟩) 0 0) 0 [] rfl (own_empty w w.heap.size 47 2 (Nat.le_refl _)) (.slice (some a) n cap) n (spanV l) rfl (by have h9 := H.out.news rfl; rw [HN.out] at h9; exact h9) (by unfold maxLen; omega) (by omega) (by simp) ?_; intro v3 w3 hown hgrow)
    have HO := Lib.hid hown
    have HB := Lib.hid (show Below w.heap.size w w3 from (Below.alloc (Below.refl _ _) (Nat.le_refl _) (.cells #[] 47)).grown hgrow (by simp) (fun k hk => by simp [Value.ownBlock] at hk; omega))
    clear hown hgrow
    go_wp2_with fail
    go_ret
    refine ⟨_, rfl, VSp.own (b := w.heap.size) ?_, HB.out⟩
    have := HO.out
    rw [HN.out]
    simpa using this
set_option maxRecDepth 100000 in
set_option maxHeartbeats 4000000 in
theorem listSp_same (v1 v2 : Value) (B1 B2 : Nat) (l : List (Int × Int)) (w : World) (hl : l.length ≤ 1000000000) (hB1 : B1 ≤ w.heap.size) (hB2 : B2 ≤ w.heap.size) (h1 : VSp B1 w v1 l) (h2 : VSp B2 w v2 l) :
    Calls Tryz.prog 24 #[v1, v2] w fun e w' => e = .returned (.bool true) ∧ Below w.heap.size w w' := by
  obtain ⟨o1, c1, rfl⟩ := h1.form
  obtain ⟨o2, c2, rfl⟩ := h2.form
  obtain ⟨n, hn⟩ : ∃ x, l.length = x := ⟨_, rfl⟩
  have HN := Lib.hid hn
  rw [hn] at hl h1 h2 ⊢
  have H1' := Lib.hid h1
  have H2' := Lib.hid h2
  have HB1' := Lib.hid hB1
  have HB2' := Lib.hid hB2
  clear h1 h2 hn hB1 hB2
  have hnb : ((n : Int) != (n : Int)) = false := by simp
  go_enter Tryz.func24, Tryz.ntmps24
  go_wp2_with fail
  go_loopw [5] (fun c wr => ∃ k : Nat, c = .int .i64 (k : Int) ∧ k ≤ n ∧ Hid (Below w.heap.size w wr)) (fun c _ => n - (intOf c).toNat)
  case atStart => exact ⟨0, rfl, by omega, Lib.hid (Below.refl _ _)⟩
  case round =>
    obtain ⟨k, rfl, hk, HB⟩ := hrel
    by_cases hkn : k < n
    · obtain ⟨g1, rfl, -, p1, p2⟩ := (H1'.out.call (hBW HB1'.out HB.out)).at (show k < l.length by rw [HN.out]; exact hkn)
      obtain ⟨g2, rfl, -, p3, p4⟩ := (H2'.out.call (hBW HB2'.out HB.out)).at (show k < l.length by rw [HN.out]; exact hkn)
      obtain ⟨⟨F, G⟩, hF⟩ : ∃ x : Int × Int, l.getD k (0, 0) = x := ⟨_, rfl⟩
      rw [hF] at p1 p2 p3 p4
      simp only at p1 p2 p3 p4
      have r1 := cell_regrown p1
      have r2 := cell_regrown p2
      have r3 := cell_regrown p3
      have r4 := cell_regrown p4
      have k1 : (0 : Int) ≤ (k : Int) := by omega
      have k2 : (k : Int) < (n : Int) := by omega
      clear hF p1 p2 p3 p4
      go_wp2_with fail
      refine wp_region_below (by kernel_rfl) (by kernel_rfl) ?_
      repeat (go_big_quiet_step (fail))
      refine wpQuiet_nil ?_
      intro w1 hb1
      have HB1 := Lib.hid (thenB HB.out hb1)
      clear hb1 r1 r2 r3 r4
      go_wp2_with fail
      go_roundw
      case rel => exact ⟨k + 1, by go_num, by omega, HB1⟩
      case measure => simp [intOf]; omega
    · go_wp2_with fail
      go_ret
      exact ⟨rfl, HB.out⟩
end Go.Proofs.YtbgcccfgcdkmdaaGreatDoor
