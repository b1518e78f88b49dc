/- The law WorkHolidays. The document's days of work: WorkThere, NewWorks. -/
import Derived.Test.YtbgcccfgcdkmdaaGreatDoorUG4
import Derived.Test.YtbgcccfgcdkmdaaGreatDoorUWrkV
import Derived.Test.YtbgcccfgcdkmdaaGreatDoorUG3
namespace Go.Proofs.YtbgcccfgcdkmdaaGreatDoor
open Go.RowKit Wrk
theorem wouldBe_any (x : Hol) (y : Int) (w : World) (h : hE x = 0) (h1 : 1 ≤ y) (h2 : y ≤ 9999) : Calls Tryz.prog 40 #[holV x, .int .i64 y] w (WouldPost x y w) := by
  rcases hE_facts h with ⟨hk, c1, c2⟩ | ⟨hk, m1, m2, -⟩ | ⟨hk, o1, o2⟩ | ⟨hk, o1, o2⟩
  · exact would_date x y w hk c1 c2 h1 h2
  · exact would_nth x y w hk m1 m2 h1 h2
  · exact would_east3 x y w hk o1 o2 h1 h2
  · exact would_east4 x y w hk o1 o2 h1 h2
theorem workHolidays_walk (s : Nat → Value) (vh : Value) (H : Hrs) (y : Int) (w : World) (hT : ErrT w) (hr : RomanT w) (hR : HrsR w.heap.size w s vh H) : Calls Tryz.prog 3 #[hoursV s vh, .int .i64 y] w fun e w' => e = .returned (.bool true) ∧ Below w.heap.size w w' :=
  workHolidays_of wouldBe_any w.heap.size H s vh y w hT hr hR (Nat.le_refl _)
end Go.Proofs.YtbgcccfgcdkmdaaGreatDoor
namespace Go.Proofs.YtbgcccfgcdkmdaaGreatDoor.Wrk
open Go Go.Proofs.YtbgcccfgcdkmdaaGreatDoor
theorem rises_len {b : Int} : ∀ {l : List Int} {a : Int}, Rises l → (∀ t, t ∈ l → a ≤ t ∧ t ≤ b) → (l.length : Int) ≤ max 0 (b - a + 1)
  | [], a, _, _ => by simp; omega
  | x :: l, a, h, hm => by
    obtain ⟨h1, h2⟩ := List.pairwise_cons.1 h
    have hx := hm x List.mem_cons_self
    have := rises_len (b := b) (a := x + 1) h2 fun t ht => ⟨by have := h1 t ht; omega, (hm t (List.mem_cons_of_mem _ ht)).2⟩
    rw [List.length_cons]
    omega
theorem y1_up (y z : Int) (h : y ≤ z) : y1 z ≤ y1 y + 366 * (z - y) + 2 := by
  have s1 : ∀ z, Dm.start 1 z = Dm.gStart z := fun z => by unfold Dm.start; simp
  unfold y1
  rw [s1, s1]
  unfold Dm.gStart
  omega
/-- A holiday of one of k years. -/
def YearsTo (L : List Hol) (a0 : Int) (k : Nat) (t : Int) : Prop := ∃ y, a0 ≤ y ∧ y < a0 + k ∧ 1 ≤ y ∧ y ≤ 9999 ∧ HolD L y t
theorem yearsTo_zero (L : List Hol) (a0 t : Int) : ¬ YearsTo L a0 0 t := fun ⟨y, h1, h2, _⟩ => by omega
theorem yearsTo_skip {L : List Hol} {a0 : Int} {k : Nat} (h : ¬ (1 ≤ a0 + k ∧ a0 + k ≤ 9999)) (t : Int) : YearsTo L a0 (k + 1) t ↔ YearsTo L a0 k t := by
  constructor
  · rintro ⟨y, h1, h2, h3, h4, h5⟩
    refine ⟨y, h1, ?_, h3, h4, h5⟩
    by_cases e : y = a0 + k
    · subst e; exact absurd ⟨h3, h4⟩ h
    · omega
  · rintro ⟨y, h1, h2, h3⟩
    exact ⟨y, h1, by omega, h3⟩
theorem yearsTo_take {L : List Hol} {a0 : Int} {k : Nat} (h1 : 1 ≤ a0 + k) (h2 : a0 + k ≤ 9999) {acc ds : List Int} (ha : ∀ t, t ∈ acc ↔ YearsTo L a0 k t) (hd : ∀ t, t ∈ ds ↔ HolD L (a0 + k) t) (t : Int) : t ∈ putN acc ds 0 ds.length ↔ YearsTo L a0 (k + 1) t := by
  rw [putN_all, List.mem_append, ha, List.mem_map]
  have e0 : ∀ d, mv 0 d = d := fun d => if_pos (.inl rfl)
  constructor
  · rintro (⟨y, g1, g2, g3⟩ | ⟨d, g1, g2⟩)
    · exact ⟨y, g1, by omega, g3⟩
    · rw [e0] at g2; subst g2; exact ⟨a0 + k, by omega, by omega, h1, h2, (hd _).1 g1⟩
  · rintro ⟨y, g1, g2, g3, g4, g5⟩
    by_cases e : y = a0 + k
    · subst e; exact .inr ⟨t, (hd t).2 g5, e0 t⟩
    · exact .inl ⟨y, g1, by omega, g3, g4, g5⟩
theorem yearsTo_len {L : List Hol} (hL : ∀ x, x ∈ L → hE x = 0) {a0 : Int} {k : Nat} (b1 : -18000 ≤ a0) (b2 : a0 ≤ 18000) (hk : k ≤ 30) {acc : List Int} (hr : Rises acc) (h : ∀ t, t ∈ acc ↔ YearsTo L a0 k t) : acc.length ≤ 20000 := by
  have := rises_len (a := y1 a0 - 136) (b := y1 a0 + 366 * 30 + 200) hr fun t ht => by
    obtain ⟨y, g1, g2, g3, g4, g5⟩ := (h t).1 ht
    have hn := HolD_near hL g3 g4 g5
    have u1 := y1_le a0 y (by omega) (by omega) g1
    have u2 := y1_up a0 (y + 1) (by omega)
    omega
  omega
theorem yearsTo_free {L : List Hol} (hL : ∀ x, x ∈ L → hE x = 0) {A C from' till t : Int} {k : Nat} (a1 : y1 A ≤ from') (c2 : till < y1 (C + 1)) (hA : -17000 ≤ A) (hC : C ≤ 17000) (hk : A - 1 + k = C + 2) (h1 : from' ≤ t) (h2 : t < till) : YearsTo L (A - 1) k t ↔ FreeD L t := by
  constructor
  · rintro ⟨y, _, _, g3, g4, g5⟩; exact ⟨y, g3, g4, g5⟩
  · rintro ⟨y, g3, g4, g5⟩
    have hn := HolD_near hL g3 g4 g5
    refine ⟨y, ?_, ?_, g3, g4, g5⟩
    · rcases Int.lt_or_le y (A - 1) with g | g
      · have := y1_le (y + 1) (A - 1) (by omega) (by omega) (by omega)
        have := y1_le (A - 1) A (by omega) (by omega) (by omega)
        omega
      · exact g
    · rcases Int.lt_or_le (C + 1) y with g | g
      · have := y1_le (C + 2) y (by omega) (by omega) (by omega)
        have := y1_le (C + 1) (C + 2) (by omega) (by omega) (by omega)
        omega
      · omega
end Go.Proofs.YtbgcccfgcdkmdaaGreatDoor.Wrk
namespace Go.Proofs.YtbgcccfgcdkmdaaGreatDoor
open Go.RowKit Wrk
set_option maxRecDepth 100000 in
set_option maxHeartbeats 8000000 in
theorem workThere_any (t : Int) (w : World) : Calls Tryz.prog 32 #[.int .i64 t] w fun e w' => e = .returned (.bool (thereB t)) ∧ Below w.heap.size w w' := by
  have C1 : Hid (∀ w0, Calls Tryz.prog 52 #[.int .i64 1, .int .i64 2] w0 fun e w' => e = .returned (.int .i64 (y1 2)) ∧ Below w0.heap.size w0 w') := Lib.hid fun w0 => YearStart_1 2 w0 (by omega) (by omega)
  have C2 : Hid (∀ w0, Calls Tryz.prog 52 #[.int .i64 1, .int .i64 9999] w0 fun e w' => e = .returned (.int .i64 (y1 9999)) ∧ Below w0.heap.size w0 w') := Lib.hid fun w0 => YearStart_1 9999 w0 (by omega) (by omega)
  have HT : Hid (∀ a b, y1 2 = a → y1 9999 = b → ((a ≤ t ∧ t < b) → thereB t = true) ∧ (¬ (a ≤ t ∧ t < b) → thereB t = false)) := Lib.hid (by
    intro a b ha hb
    subst ha hb
    exact ⟨fun h => decide_eq_true h, fun h => decide_eq_false h⟩)
  obtain ⟨a, ha⟩ : ∃ a, y1 2 = a := ⟨_, rfl⟩
  obtain ⟨b, hb⟩ : ∃ b, y1 9999 = b := ⟨_, rfl⟩
  rw [ha] at C1
  rw [hb] at C2
  have HT2 := Lib.hid (HT.out a b ha hb)
  clear ha hb HT
  by_cases h1 : a ≤ t
  · by_cases h2 : t < b
    · rw [HT2.out.1 ⟨h1, h2⟩]
      go_enter Tryz.func32, Tryz.ntmps32
      go_wp2_with (first
        | (go_at_call 52; (with_reducible refine (C1.out _).mono ?_); rintro e w2 ⟨rfl, hb2⟩; have HB2 := Lib.hid hb2; clear hb2)
        | (go_at_call 52; (with_reducible refine (C2.out _).mono ?_); rintro e w3 ⟨rfl, hb3⟩; have HB3 := Lib.hid (thenB HB2.out hb3); clear hb3))
      go_ret
      exact ⟨rfl, HB3.out⟩
    · rw [HT2.out.2 fun h => h2 h.2]
      have d2 : decide (t < b) = false := decide_eq_false h2
      go_enter Tryz.func32, Tryz.ntmps32
      go_wp2_with (first
        | (go_at_call 52; (with_reducible refine (C1.out _).mono ?_); rintro e w2 ⟨rfl, hb2⟩; have HB2 := Lib.hid hb2; clear hb2)
        | (go_at_call 52; (with_reducible refine (C2.out _).mono ?_); rintro e w3 ⟨rfl, hb3⟩; have HB3 := Lib.hid (thenB HB2.out hb3); clear hb3))
      go_ret
      exact ⟨rfl, HB3.out⟩
  · rw [HT2.out.2 fun h => h1 h.1]
    go_enter Tryz.func32, Tryz.ntmps32
    go_wp2_with (first
      | (go_at_call 52; (with_reducible refine (C1.out _).mono ?_); rintro e w2 ⟨rfl, hb2⟩; have HB2 := Lib.hid hb2; clear hb2))
    go_ret
    exact ⟨rfl, HB2.out⟩
/-- A list of days' spans: n slices, the i-th is f i. -/
def WksL (w : World) (b : Nat) (v : Value) (n : Nat) (f : Nat → Value) : Prop := w.ownsRow b 22 1 v n ((List.range n).map f)
theorem WksL.form {w : World} {b n : Nat} {v : Value} {f : Nat → Value} (h : WksL w b v n f) : ∃ oa cap, v = .slice oa n cap := by
  rcases h.2 with ⟨rfl, h0⟩ | ⟨g, cap, cur, rfl, _⟩
  · exact ⟨none, 0, by rw [h0]⟩
  · exact ⟨_, cap, rfl⟩
theorem WksL.call {w w' : World} {b n : Nat} {v : Value} {f : Nat → Value} (h : WksL w b v n f) (hb : Below w.heap.size w w') : WksL w' b v n f :=
  World.ownsRow.kept (row := none) h ⟨hb.os, hb.tape, hb.output, hb.size, fun k hk _ => hb.block k hk⟩ (by cases hv : v.ownBlock <;> simp)
theorem WksL.at {w : World} {b n m cap : Nat} {oa : Option Addr} {f : Nat → Value} (h : WksL w b (.slice oa m cap) n f) {k : Nat} (hk : k < n) : ∃ g, oa = some ⟨g, 0, none⟩ ∧ b ≤ g ∧ g < w.heap.size ∧ w.cell? ⟨g, k, none⟩ = some (f k) := by
  obtain ⟨g, c, e, hb, hg⟩ := World.ownsRow.form h (by omega)
  cases e
  have h1 := World.ownsRow.cells h (g := g) rfl k (f k) (by simp [hk])
  rw [Addr.add_lit, Nat.zero_add] at h1
  exact ⟨g, rfl, hb, hg, h1⟩
theorem setCell_grown (w : World) (p : Addr) (u : Value) : w.grownBy (w.setCell p u) (some p.block) :=
  ⟨by simp [World.setCell], by simp [World.setCell], by simp [World.setCell], by simp, fun k _ hne => Below.heap_setCell w p u k (fun e => hne (by rw [e]))⟩
theorem Tryz.infoSpans : (Tryz.prog.info? 22).map (fun i => (i.zero, i.size, i.bytes)) = some (some (.slice none 0 0), 1, 24) := by kernel_rfl
set_option maxRecDepth 100000 in
set_option maxHeartbeats 16000000 in
theorem newWorks_any (B : Nat) (H : Hrs) (s : Nat → Value) (vh : Value) (a : Int) (N : Nat) (w : World) (hR : HrsR B w s vh H) (hB : B ≤ w.heap.size) (hc : chk H = 0) (a1 : -1000000 ≤ a) (a2 : a ≤ 3100000) (hN : N ≤ 4100) :
    Calls Tryz.prog 33 #[hoursV s vh, .int .i64 a, .int .i64 (N : Int)] w fun e w' => ∃ v, e = .returned (.agg #[.int .i64 a, v]) ∧ WksL w' w.heap.size v N (fun i => dayV H s (a + i)) ∧ Below w.heap.size w w' := by
  have hL := chk_hE hc
  have CG : Hid (∀ n w0, -4000000 ≤ n → n ≤ 4000000 → Calls Tryz.prog 53 #[.int .i64 n] w0 fun e w' => (∃ Y mm dd, e = .returned (.agg #[.int .i64 1, .int .i64 Y, .int .i64 mm, .int .i64 dd]) ∧ (-17000 ≤ Y ∧ Y ≤ 17000) ∧ (y1 Y ≤ n ∧ n < y1 (Y + 1))) ∧ Below w0.heap.size w0 w') := Lib.hid fun n w0 n1 n2 => (greg_any n w0).mono fun e w' ⟨a, Y, mm, dd, g1, g2, g3⟩ => by
    have e0 := ofE_ok (c := 1) (n := n) (by omega) (by omega) n1 n2
    rcases g2 with ⟨g, -⟩ | ⟨-, rfl, -, -, gv, gd⟩
    · exact absurd e0 g
    · have hi := Dm.in_year 1 Y mm dd (by omega) (by omega) gv
      have hb := of_year n1 n2 gv gd
      exact ⟨⟨Y, mm, dd, g1, ⟨hb.1, hb.2.1⟩, by unfold y1; omega⟩, g3⟩
  have hfy : ∀ (x y m d : Int) (w : World), (Instr.field 89 (.agg #[.int .i64 x, .int .i64 y, .int .i64 m, .int .i64 d]) 1).run Tryz.prog w = .ok (.int .i64 y) w := fun x y m d w => field_year x y m d w
  obtain ⟨i0, hi0, hz0, hz1, hz2⟩ := info_parts Tryz.infoSpans
  obtain ⟨wB, hwB, ⟨hb0, hlt⟩, f0, f1, f2, f3, f4, f5, f6, f7⟩ := hours_cells s vh w
  obtain ⟨wD, hwD⟩ : ∃ W, (wB.alloc (.cells #[.int .i64 0, .slice none 0 0] 68)).alloc (.cells #[.int .i64 a, .slice none 0 0] 68) = W := ⟨_, rfl⟩
  have hz3 : wB.heap.size = w.heap.size + 1 := by rw [← hwB]; simp
  have hBD : Below wB.heap.size wB wD := by rw [← hwD]; exact ((Below.refl _ _).alloc (Nat.le_refl _) _).alloc (by simp) _
  have HBD := Lib.hid (thenB hb0 hBD)
  have HZD := Lib.hid (show wD.heap.size = w.heap.size + 3 by rw [← hwD]; simp; omega)
  have HS : Hid (∀ w' : World, (∀ k, k < wD.heap.size → k ≠ w.heap.size + 2 → w'.heap[k]? = wD.heap[k]?) → (∀ j, j < 7 → w'.cell? ⟨w.heap.size, j, none⟩ = some (s j)) ∧ w'.cell? ⟨w.heap.size, 7, none⟩ = some vh ∧ (∀ k, k < 2 → w'.frozen? ⟨w.heap.size + 1, k, none⟩ = false) ∧ w'.cell? ⟨w.heap.size + 1, 0, none⟩ = some (.int .i64 0) ∧ w'.cell? ⟨w.heap.size + 1, 1, none⟩ = some (.slice none 0 0)) := Lib.hid (by
    intro w' hk
    have o : ∀ j, w'.cell? ⟨w.heap.size, j, none⟩ = wB.cell? ⟨w.heap.size, j, none⟩ := fun j => (World.cell?_of_block (a := ⟨w.heap.size, j, none⟩) (hk w.heap.size (by rw [HZD.out]; omega) (by omega))).trans (hBD.cell (p := ⟨w.heap.size, j, none⟩) hlt)
    have q : w'.heap[w.heap.size + 1]? = wD.heap[w.heap.size + 1]? := hk _ (by rw [HZD.out]; omega) (by omega)
    have q0 : ∀ j, w'.cell? ⟨w.heap.size + 1, j, none⟩ = wD.cell? ⟨w.heap.size + 1, j, none⟩ := fun j => World.cell?_of_block q
    have q1 : ∀ j, w'.frozen? ⟨w.heap.size + 1, j, none⟩ = wD.frozen? ⟨w.heap.size + 1, j, none⟩ := fun j => World.frozen?_of_block q
    refine ⟨fun j hj => (o j).trans (seven (P := fun j => wB.cell? ⟨w.heap.size, j, none⟩ = some (s j)) f0 f1 f2 f3 f4 f5 f6 j hj), (o 7).trans f7, fun k hk => (q1 k).trans ?_, (q0 0).trans ?_, (q0 1).trans ?_⟩
    · rw [← hwD, ← hz3]; simp
    · rw [← hwD, ← hz3]; simp
    · rw [← hwD, ← hz3]; simp)
  have HD7 : Hid ((∀ k, k < 2 → wD.frozen? ⟨w.heap.size + 2, k, none⟩ = false) ∧ wD.cell? ⟨w.heap.size + 2, 0, none⟩ = some (.int .i64 a) ∧ wD.cell? ⟨w.heap.size + 2, 1, none⟩ = some (.slice none 0 0)) := Lib.hid (by
    have e : w.heap.size + 2 = wB.heap.size + 1 := by omega
    rw [e, ← hwD]
    exact ⟨fun k _ => by simp, by simp, by simp⟩)
  have HH := Lib.hid (hR.call (HBD.out.mono hB))
  have HBB := Lib.hid (Nat.le_trans hB HBD.out.size)
  have CHo := Lib.hid (fun y w0 (hb : Below wD.heap.size wD w0) (h1 : 1 ≤ y) (h2 : y ≤ 9999) => rholidays_of wouldBe_any B H s vh y w0 (HH.out.call (hb.mono HBB.out)) (Nat.le_trans HBB.out hb.size) hc h1 h2)
  have HLL := Lib.hid hL
  have HCC := Lib.hid hc
  unfold hoursV at CHo
  unfold hoursV
  have w1 : wrap64 (a + N) = a + N := wrap_in (InI.mk (by omega) (by omega))
  have HWB := Lib.hid hwB
  have HWD := Lib.hid hwD
  have HZ3 := Lib.hid hz3
  clear hb0 hlt hR hB hc hL hBD f0 f1 f2 f3 f4 f5 f6 f7 hwB hwD hz3
  go_enter Tryz.func33, Tryz.ntmps33
  go_upto_region 3 with fail
  simp only [HWB.out, HWD.out]
  simp only [Nat.add_assoc, Nat.reduceAdd]
  have CGa := Lib.hid (fun w0 => CG.out a w0 (by omega) (by omega))
  have CGb := Lib.hid (fun w0 => CG.out (a + N) w0 (by omega) (by omega))
  clear CG
  go_upto_region 4 with (first
    | (go_at_call 53; (with_reducible refine (CGa.out _).mono ?_); rintro e w2 ⟨⟨A, m0, d0, rfl, hAb, hA⟩, hb2⟩; have HA := Lib.hid hA; have HB2 := Lib.hid hb2; clear hb2 hA)
    | (go_at_call 53; (with_reducible refine (CGb.out _).mono ?_); rintro e w3 ⟨⟨C, m1, d1, rfl, hCb, hC⟩, hb3⟩; have HC := Lib.hid hC; have HB3 := Lib.hid (thenB HB2.out hb3); clear hb3 hC))
  have hAC : A ≤ C ∧ C ≤ A + 14 := by
    have g1 := HA.out
    have g2 := HC.out
    constructor
    · rcases Int.lt_or_le C A with g | g
      · have := y1_le (C + 1) A (by omega) (by omega) (by omega); omega
      · exact g
    · rcases Int.lt_or_le (A + 14) C with g | g
      · have := y1_le (A + 1) C (by omega) (by omega) (by omega); omega
      · exact g
  obtain ⟨M, hM⟩ : ∃ M : Nat, A - 1 + (M : Int) = C + 2 := ⟨(C + 3 - A).toNat, by omega⟩
  have hMb : M ≤ 17 := by omega
  have u1 : wrap64 (A - 1) = A - 1 := wrap_in (InI.mk (by omega) (by omega))
  have u2 : wrap64 (C + 1) = C + 1 := wrap_in (InI.mk (by omega) (by omega))
  have HZZ := Lib.hid (show wD.heap.size ≤ w3.heap.size from HB3.out.size)
  go_wp2_with fail
  clear u1
  go_loopw [8, 11] (fun v c wr => ∃ (v8 : Value) (k : Nat), v8 = v ∧ c = .int .i64 (A - 1 + k) ∧ k ≤ M ∧ Hid (∃ acc, IntL wr wD.heap.size v8 acc ∧ Rises acc ∧ ∀ t, t ∈ acc ↔ YearsTo H.hols (A - 1) k t) ∧ Hid (Below wD.heap.size wD wr)) (fun _ c _ => (C + 2 - intOf c).toNat)
  case atStart => exact ⟨_, 0, rfl, by simp, by omega, Lib.hid ⟨[], IntL.nil _ _, List.Pairwise.nil, fun t => by simp; exact yearsTo_zero _ _ _⟩, HB3⟩
  case round =>
    obtain ⟨v8, k, hv8, rfl, hk, HAcc, HBk⟩ := hrel
    subst hv8
    have a3 : wrap64 (A - 1 + (k : Int) + 1) = A - 1 + (k : Int) + 1 := wrap_in (InI.mk (by omega) (by omega))
    by_cases hkM : k < M
    · have k1 : A - 1 + (k : Int) ≤ C + 1 := by omega
      by_cases hy : 1 ≤ A - 1 + (k : Int) ∧ A - 1 + (k : Int) ≤ 9999
      · obtain ⟨y1', y2'⟩ := hy
        have CHk := Lib.hid (CHo.out (A - 1 + k) wr HBk.out y1' y2')
        obtain ⟨q0, q1, -⟩ := HS.out wr (fun j hj _ => HBk.out.block j hj)
        have c0 := q0 0 (by decide)
        have c1 := q0 1 (by decide)
        have c2 := q0 2 (by decide)
        have c3 := q0 3 (by decide)
        have c4 := q0 4 (by decide)
        have c5 := q0 5 (by decide)
        have c6 := q0 6 (by decide)
        clear q0
        go_wp2_with (go_at_call 27; (with_reducible refine (CHk.out).mono ?_); rintro e w4 ⟨v, ds, rfl, hv, hri, hmem, hb4⟩; obtain ⟨od, cd, hvf⟩ := hv.form; subst hvf; have HV := Lib.hid hv; have HM := Lib.hid hmem; have HB4 := Lib.hid hb4; obtain ⟨nd, hnd⟩ : ∃ n, ds.length = n := ⟨_, rfl⟩; rw [hnd] at HV ⊢; have HND := Lib.hid hnd; have hndm : nd ≤ 9223372036854775807 := (by have := hv.lenM; unfold maxLen at this; omega); have hnd2 : nd ≤ 20000 := (by have := yearsTo_len (H.hols |> fun _ => HLL.out) (a0 := A - 1 + k) (k := 1) (by omega) (by omega) (by omega) hri (fun t => (hmem t).trans ⟨fun h => ⟨_, Int.le_refl _, by omega, y1', y2', h⟩, fun ⟨y, g1, g2, _, _, g5⟩ => by rwa [show y = A - 1 + k by omega] at g5⟩); omega); clear hv hmem hb4 hnd hri)
        clear c0 c1 c2 c3 c4 c5 c6 q1
        obtain ⟨acc, hacc, hris, hmem⟩ := HAcc.out
        have hal := yearsTo_len HLL.out (by omega) (by omega) (by omega) hris hmem
        have HACC := Lib.hid (hacc.call HB4.out)
        have HRI := Lib.hid hris
        have HMEM := Lib.hid hmem
        have HBW4 := Lib.hid (thenB HBk.out HB4.out)
        clear hacc hris hmem
        go_loopw [8, 44] (fun v c wr => ∃ (v6 : Value) (j : Nat), v6 = v ∧ c = .int .i64 (j : Int) ∧ j ≤ nd ∧ Hid (IntL wr wD.heap.size v6 (putN acc ds 0 j)) ∧ Hid (Below w4.heap.size w4 wr)) (fun _ c _ => nd - (intOf c).toNat)
        case atStart => exact ⟨_, 0, rfl, rfl, by omega, HACC, Lib.hid (Below.refl _ _)⟩
        case round =>
          obtain ⟨v6, j, hv6, rfl, hj, HSj, HBI⟩ := hrel
          subst hv6
          by_cases hjd : j < nd
          · obtain ⟨gd, rfl, hg1, hg2, hg3, -⟩ := HV.out.at (k := j) (by rw [HND.out]; exact hjd)
            have e1 := (HBI.out.cell (p := ⟨gd, j, none⟩) hg2).trans hg3
            have HTT : Hid (putN acc ds 0 (j + 1) = put (putN acc ds 0 j) (ds.getD j 0)) := Lib.hid (by show put (putN acc ds 0 j) (mv 0 (ds.getD j 0)) = _; rw [show mv 0 (ds.getD j 0) = ds.getD j 0 from if_pos (.inl rfl)])
            have hplen : (putN acc ds 0 j).length ≤ 100000 := by
              have := putN_len (acc := acc) (ds := ds) (how := 0) j
              omega
            obtain ⟨d, hd⟩ : ∃ d, ds.getD j 0 = d := ⟨_, rfl⟩
            rw [hd] at e1 HTT
            have CP := Lib.hid (put_any v6 wD.heap.size (putN acc ds 0 j) d wr HSj.out hplen (Nat.le_trans HBW4.out.size HBI.out.size))
            rw [← HTT.out] at CP
            have k3 : (0 : Int) ≤ (j : Int) := by omega
            have k4 : (j : Int) < (nd : Int) := by omega
            clear hg1 hg2 hg3 hd hplen HTT
            go_wp2_with (go_at_call 41; refine (CP.out).mono ?_; rintro e w5 ⟨v7, rfl, hv7, hb5⟩; have HV7 := Lib.hid hv7; have HB5 := Lib.hid (thenB HBI.out hb5); clear hv7 hb5)
            go_roundw
            case rel => exact ⟨_, j + 1, rfl, by go_num, by omega, HV7, HB5⟩
            case measure => simp [intOf]; omega
          · have hjn : j = nd := by omega
            subst hjn
            have HG : Hid (∃ acc', IntL wr wD.heap.size v6 acc' ∧ Rises acc' ∧ ∀ t, t ∈ acc' ↔ YearsTo H.hols (A - 1) (k + 1) t) := Lib.hid ⟨_, HSj.out, putN_rises HRI.out j, fun t => by rw [← yearsTo_take y1' y2' HMEM.out HM.out t, HND.out]⟩
            have HBO := Lib.hid (thenB HBW4.out HBI.out)
            go_wp2_with fail
            go_roundw
            case rel => first | exact ⟨_, k + 1, rfl, by congr 1; omega, by omega, HG, HBO⟩ | ((repeat apply Exists.intro); exact ⟨⟨rfl, by congr 1; omega, by omega, HG, HBO⟩, rfl⟩)
            case measure => simp [intOf]; omega
      · have HG : Hid (∃ acc', IntL wr wD.heap.size v8 acc' ∧ Rises acc' ∧ ∀ t, t ∈ acc' ↔ YearsTo H.hols (A - 1) (k + 1) t) := Lib.hid (by
          obtain ⟨acc, g1, g2, g3⟩ := HAcc.out
          exact ⟨acc, g1, g2, fun t => (g3 t).trans (yearsTo_skip hy t).symm⟩)
        by_cases hy1 : 1 ≤ A - 1 + (k : Int)
        · have hy2 : ¬ A - 1 + (k : Int) ≤ 9999 := fun h => hy ⟨hy1, h⟩
          have hy2' : decide (A - 1 + (k : Int) ≤ 9999) = false := decide_eq_false hy2
          clear hy
          go_wp2_with fail
          go_roundw
          case rel => first | exact ⟨_, k + 1, rfl, by congr 1; omega, by omega, HG, HBk⟩ | ((repeat apply Exists.intro); exact ⟨⟨rfl, by congr 1; omega, by omega, HG, HBk⟩, rfl⟩)
          case measure => simp [intOf]; omega
        · have hy2' : decide (1 ≤ A - 1 + (k : Int)) = false := decide_eq_false hy1
          clear hy
          go_wp2_with fail
          go_roundw
          case rel => first | exact ⟨_, k + 1, rfl, by congr 1; omega, by omega, HG, HBk⟩ | ((repeat apply Exists.intro); exact ⟨⟨rfl, by congr 1; omega, by omega, HG, HBk⟩, rfl⟩)
          case measure => simp [intOf]; omega
    · have hkn : k = M := by omega
      subst hkn
      have hne : ¬ A - 1 + (k : Int) ≤ C + 1 := by omega
      obtain ⟨accF, hF, hFR, hFm⟩ := HAcc.out
      have hFL := yearsTo_len HLL.out (by omega) (by omega) (by omega) hFR hFm
      have HFm : Hid (∀ t, a ≤ t → t < a + N → (t ∈ accF ↔ FreeD H.hols t)) := Lib.hid fun t h1 h2 => (hFm t).trans (yearsTo_free HLL.out HA.out.1 HC.out.2 (by omega) (by omega) hM h1 h2)
      have HF := Lib.hid hF
      have HFN := Lib.hid (show accF.length ≤ 9223372036854775807 by omega)
      obtain ⟨w5, hw5⟩ : ∃ W : World, W = wr := ⟨_, rfl⟩
      subst hw5
      have HZ5 : Hid (w.heap.size + 3 ≤ w5.heap.size) := Lib.hid (by rw [← HZD.out]; exact HBk.out.size)
      have HIN : Hid (w5.cell? ⟨w.heap.size + 2, 0, none⟩ = some (.int .i64 a) ∧ w5.cell? ⟨w.heap.size + 2, 1, none⟩ = some (.slice none 0 0) ∧ ∀ k, k < 2 → w5.frozen? ⟨w.heap.size + 2, k, none⟩ = false) := Lib.hid (by
        have hz : w.heap.size + 2 < wD.heap.size := by rw [HZD.out]; omega
        exact ⟨(HBk.out.cell (p := ⟨w.heap.size + 2, 0, none⟩) hz).trans HD7.out.2.1, (HBk.out.cell (p := ⟨w.heap.size + 2, 1, none⟩) hz).trans HD7.out.2.2, fun k hk => (frozen_below HBk.out (p := ⟨w.heap.size + 2, k, none⟩) hz).trans (HD7.out.1 k hk)⟩)
      clear hF hFR hFm hFL u2 a3 w1
      go_wp2_with fail
      clear hne
      go_loopw [14] (fun c wx => ∃ (v : Value) (i : Nat), c = .int .i64 (i : Int) ∧ i ≤ N ∧ Hid (WksL wx w5.heap.size v i (fun i => dayV H s (a + i))) ∧ Hid (w5.grownBy wx (some (w.heap.size + 2))) ∧ Hid (wx.cell? ⟨w.heap.size + 2, 0, none⟩ = some (.int .i64 a) ∧ wx.cell? ⟨w.heap.size + 2, 1, none⟩ = some v ∧ ∀ k, k < 2 → wx.frozen? ⟨w.heap.size + 2, k, none⟩ = false)) (fun c _ => N - (intOf c).toNat)
      case atStart => exact ⟨_, 0, by simp, by omega, Lib.hid (World.ownsRow_nil _ _ _ _), Lib.hid (below_grown (Below.refl _ _)), HIN⟩
      case round =>
        obtain ⟨v, i, rfl, hi, HWk, HGx, HCx⟩ := hrel
        obtain ⟨wo, hwo⟩ : ∃ wo : World, wo = wr := ⟨_, rfl⟩
        subst hwo
        obtain ⟨q0, q1, q2, q3, q4⟩ := HS.out wo (fun j hj hne => (HGx.out.block j (Nat.lt_of_lt_of_le hj HBk.out.size) (by simpa using hne)).trans (HBk.out.block j hj))
        by_cases hiN : i < N
        · obtain ⟨j, hj⟩ : ∃ j : Nat, Dm.wd (a + i) = (j : Int) + 1 := ⟨(Dm.wd (a + i) - 1).toNat, by have := Dm.wd_bd (a + i); omega⟩
          have hj7 : j < 7 := by have := Dm.wd_bd (a + i); omega
          have CWt : Hid (∀ w0, Calls Tryz.prog 54 #[.int .i64 (a + i)] w0 fun e w' => e = .returned (.int .i64 ((j : Int) + 1)) ∧ w0 = w') := Lib.hid fun w0 => by rw [← hj]; exact refWeekday_any (a + i) w0
          have HDV : Hid (∀ b, freeB H.hols (a + i) = b → dayV H s (a + i) = if b then .slice none 0 0 else s j) := Lib.hid fun b hb => by unfold dayV; rw [hb, hj]; congr 1; congr 1; omega
          have HFx : Hid (IntL wo wD.heap.size v8 accF) := Lib.hid (HF.out.kept HGx.out (fun e => by have h5 := (HF.out.lt _ e).1; have h6 := HZD.out; omega))
          have CMB : Hid (Calls Tryz.prog 55 #[v8, .int .i64 (a + i)] wo fun e w' => e = .returned (.bool (decide (a + (i : Int) ∈ accF))) ∧ wo = w') := Lib.hid ((memberI_any _ accF (a + i) _ wD.heap.size HFx.out HFN.out).mono fun e w' ⟨h1, h2⟩ => ⟨h1, h2.symm⟩)
          obtain ⟨oj, Lj, cj, hsj⟩ : ∃ oj Lj cj, s j = .slice oj Lj cj := by
            obtain ⟨x, y, z⟩ := (HH.out.week j hj7).form
            exact ⟨x, _, y, z⟩
          have sj := q0 j hj7
          rw [hsj] at sj HDV
          have HFT := HFm.out (a + i) (by omega) (by omega)
          have b2 : (j : Int) < 7 := by omega
          have b3 : (0 : Int) ≤ (j : Int) := by omega
          have k1 : (i : Int) < (N : Int) := by omega
          have c1 := HCx.out.2.1
          have B0 := Lib.hid (show wrap64 (a + (i : Int)) = a + i from wrap_in (InI.mk (by omega) (by omega)))
          have B1 := Lib.hid (show wrap64 (j : Int) = (j : Int) from wrap_in (InI.mk (by omega) (by omega)))
          cases hfr : freeB H.hols (a + i) with
          | true =>
            have HMB : Hid (decide (a + (i : Int) ∈ accF) = true) := Lib.hid (decide_eq_true (HFT.2 (freeB_true.1 hfr)))
            have HDVi : Hid (dayV H s (a + (i : Int)) = .slice none 0 0) := Lib.hid ((HDV.out true hfr).trans (if_pos rfl))
            clear hfr HFT hj hsj q0 q1 q2 q3 q4
            go_wp2_with (first
              | (go_at_call 54; (with_reducible refine (CWt.out _).mono ?_); rintro e w6 ⟨rfl, rfl⟩)
              | (go_at_call 55; (with_reducible refine (CMB.out).mono ?_); rintro e w6 ⟨rfl, rfl⟩; rw [HMB.out])
              | (at_builtin; refine wpList_append_lies _ rfl (.tmp 71) (.tmp 73) 66 rfl w5.heap.size 22 i0 (.slice none 0 0) 1 24 Tryz.underlying66 hi0 hz0 hz1 hz2 rfl (by decide) _ i ((List.range i).map fun i : Nat => dayV H s (a + i)) rfl (HWk.out.alloc _) _ 1 1 [.slice none 0 0] rfl rfl (cells_atI (by simp) _ _) (by simp [Value.oneCell']) (by decide) (by (try clear b0 b1); unfold maxLen; omega) (by (try clear b0 b1); omega) (by (try clear b0 b1); have h5 := HGx.out.size; simp; omega) (wo.heap.size + 1) (by simp) ?_; intro g5 c5 w7 hown hgrow hat hlt5; (try clear b0 b1); have s1 : w7.heap[w.heap.size + 2]? = wo.heap[w.heap.size + 2]? := (hgrow.block (w.heap.size + 2) (by have h5 := HGx.out.size; have h6 := HZ5.out; simp; omega) (fun e => by have h5 := (HWk.out.lt _ e.symm).1; have h6 := HZ5.out; omega)).trans (heap_alloc_old _ _ (by have h5 := HGx.out.size; have h6 := HZ5.out; omega)); have s2 : w7.cell? ⟨w.heap.size + 2, 1, none⟩ = some v := (World.cell?_of_block s1).trans HCx.out.2.1; have s3 : w7.frozen? ⟨w.heap.size + 2, 1, none⟩ = false := (World.frozen?_of_block s1).trans (HCx.out.2.2 1 (by decide))))
            have hs4 : w7.cell? ⟨w.heap.size + 2, 0, none⟩ = some (.int .i64 a) := (World.cell?_of_block s1).trans HCx.out.1
            have HN7 : Hid (WksL (w7.setCell ⟨w.heap.size + 2, 1, none⟩ (.slice (some ⟨g5, 0, none⟩) (i + 1) c5)) w5.heap.size (.slice (some ⟨g5, 0, none⟩) (i + 1) c5) (i + 1) (fun i => dayV H s (a + i))) := Lib.hid (by
              unfold WksL
              rw [List.range_succ, List.map_append]
              refine ownsRow_setCell_other ?_ (fun e => by have h5 := (hown.lt _ e).1; have h6 := HZ5.out; simp at h5; omega) _
              simp only [List.map_cons, List.map_nil, HDVi.out]
              exact hown)
            have HG7 : Hid (w5.grownBy (w7.setCell ⟨w.heap.size + 2, 1, none⟩ (.slice (some ⟨g5, 0, none⟩) (i + 1) c5)) (some (w.heap.size + 2))) := Lib.hid (by
              refine ((HGx.out.andThen (World.grownBy_alloc wo _ none) (fun j hj => by cases hj)).andThen hgrow (fun j hj => .inl (HWk.out.lt j hj).1)).andThen (row' := some (w.heap.size + 2)) (setCell_grown _ _ _) (fun j hj => .inr (by rw [hj])))
            have HC7 : Hid ((w7.setCell ⟨w.heap.size + 2, 1, none⟩ (.slice (some ⟨g5, 0, none⟩) (i + 1) c5)).cell? ⟨w.heap.size + 2, 0, none⟩ = some (.int .i64 a) ∧ (w7.setCell ⟨w.heap.size + 2, 1, none⟩ (.slice (some ⟨g5, 0, none⟩) (i + 1) c5)).cell? ⟨w.heap.size + 2, 1, none⟩ = some (.slice (some ⟨g5, 0, none⟩) (i + 1) c5) ∧ ∀ k, k < 2 → (w7.setCell ⟨w.heap.size + 2, 1, none⟩ (.slice (some ⟨g5, 0, none⟩) (i + 1) c5)).frozen? ⟨w.heap.size + 2, k, none⟩ = false) := Lib.hid ⟨(World.cell?_setCell_other _ _ _ _ (by simp)).trans hs4, World.cell?_setCell_same _ _ _ s2, fun k hk => by rw [World.frozen?_setCell]; exact (World.frozen?_of_block (a := ⟨w.heap.size + 2, k, none⟩) s1).trans (HCx.out.2.2 k hk)⟩
            clear hown hgrow hat hlt5 s1 s2 s3 hs4
            go_roundw
            case rel => exact ⟨_, i + 1, by go_num, by omega, HN7, HG7, HC7⟩
            case measure => simp [intOf]; omega
          | false =>
            have HMB : Hid (decide (a + (i : Int) ∈ accF) = false) := Lib.hid (decide_eq_false fun h => freeB_false.1 hfr (HFT.1 h))
            have HDVi : Hid (dayV H s (a + (i : Int)) = .slice oj Lj cj) := Lib.hid ((HDV.out false hfr).trans (if_neg (by decide)))
            clear hfr HFT hj hsj q0 q1 q2 q3 q4
            go_wp2_with (first
              | (go_at_call 54; (with_reducible refine (CWt.out _).mono ?_); rintro e w6 ⟨rfl, rfl⟩)
              | (go_at_call 55; (with_reducible refine (CMB.out).mono ?_); rintro e w6 ⟨rfl, rfl⟩; rw [HMB.out])
              | (at_builtin; refine wpList_append_lies _ rfl (.tmp 71) (.tmp 73) 66 rfl w5.heap.size 22 i0 (.slice none 0 0) 1 24 Tryz.underlying66 hi0 hz0 hz1 hz2 rfl (by decide) _ i ((List.range i).map fun i : Nat => dayV H s (a + i)) rfl (HWk.out.alloc _) _ 1 1 [.slice oj Lj cj] rfl rfl (cells_atI (by simp) _ _) (by simp [Value.oneCell']) (by decide) (by unfold maxLen; omega) (by omega) (by have h5 := HGx.out.size; simp; omega) (wo.heap.size + 1) (by simp) ?_; intro g5 c5 w7 hown hgrow hat hlt5; have s1 : w7.heap[w.heap.size + 2]? = wo.heap[w.heap.size + 2]? := (hgrow.block (w.heap.size + 2) (by have h5 := HGx.out.size; have h6 := HZ5.out; simp; omega) (fun e => by have h5 := (HWk.out.lt _ e.symm).1; have h6 := HZ5.out; omega)).trans (heap_alloc_old _ _ (by have h5 := HGx.out.size; have h6 := HZ5.out; omega)); have s2 : w7.cell? ⟨w.heap.size + 2, 1, none⟩ = some v := (World.cell?_of_block s1).trans HCx.out.2.1; have s3 : w7.frozen? ⟨w.heap.size + 2, 1, none⟩ = false := (World.frozen?_of_block s1).trans (HCx.out.2.2 1 (by decide))))
            have hs4 : w7.cell? ⟨w.heap.size + 2, 0, none⟩ = some (.int .i64 a) := (World.cell?_of_block s1).trans HCx.out.1
            have HN7 : Hid (WksL (w7.setCell ⟨w.heap.size + 2, 1, none⟩ (.slice (some ⟨g5, 0, none⟩) (i + 1) c5)) w5.heap.size (.slice (some ⟨g5, 0, none⟩) (i + 1) c5) (i + 1) (fun i => dayV H s (a + i))) := Lib.hid (by
              unfold WksL
              rw [List.range_succ, List.map_append]
              refine ownsRow_setCell_other ?_ (fun e => by have h5 := (hown.lt _ e).1; have h6 := HZ5.out; simp at h5; omega) _
              simp only [List.map_cons, List.map_nil, HDVi.out]
              exact hown)
            have HG7 : Hid (w5.grownBy (w7.setCell ⟨w.heap.size + 2, 1, none⟩ (.slice (some ⟨g5, 0, none⟩) (i + 1) c5)) (some (w.heap.size + 2))) := Lib.hid (by
              refine ((HGx.out.andThen (World.grownBy_alloc wo _ none) (fun j hj => by cases hj)).andThen hgrow (fun j hj => .inl (HWk.out.lt j hj).1)).andThen (row' := some (w.heap.size + 2)) (setCell_grown _ _ _) (fun j hj => .inr (by rw [hj])))
            have HC7 : Hid ((w7.setCell ⟨w.heap.size + 2, 1, none⟩ (.slice (some ⟨g5, 0, none⟩) (i + 1) c5)).cell? ⟨w.heap.size + 2, 0, none⟩ = some (.int .i64 a) ∧ (w7.setCell ⟨w.heap.size + 2, 1, none⟩ (.slice (some ⟨g5, 0, none⟩) (i + 1) c5)).cell? ⟨w.heap.size + 2, 1, none⟩ = some (.slice (some ⟨g5, 0, none⟩) (i + 1) c5) ∧ ∀ k, k < 2 → (w7.setCell ⟨w.heap.size + 2, 1, none⟩ (.slice (some ⟨g5, 0, none⟩) (i + 1) c5)).frozen? ⟨w.heap.size + 2, k, none⟩ = false) := Lib.hid ⟨(World.cell?_setCell_other _ _ _ _ (by simp)).trans hs4, World.cell?_setCell_same _ _ _ s2, fun k hk => by rw [World.frozen?_setCell]; exact (World.frozen?_of_block (a := ⟨w.heap.size + 2, k, none⟩) s1).trans (HCx.out.2.2 k hk)⟩
            clear hown hgrow hat hlt5 s1 s2 s3 hs4
            go_roundw
            case rel => exact ⟨_, i + 1, by go_num, by omega, HN7, HG7, HC7⟩
            case measure => simp [intOf]; omega
        · have e : i = N := by omega
          subst e
          obtain ⟨ol, cl, hvf⟩ := HWk.out.form
          subst hvf
          have d0 := HCx.out.1
          have d1 := HCx.out.2.1
          have t0 := q2 0 (by decide)
          have t1 := q2 1 (by decide)
          have t2 : (wo.setCell ⟨w.heap.size + 1, 0, none⟩ (.int .i64 a)).frozen? ⟨w.heap.size + 1, 1, none⟩ = false := by rw [World.frozen?_setCell]; exact t1
          have t3 : (wo.setCell ⟨w.heap.size + 1, 0, none⟩ (.int .i64 a)).cell? ⟨w.heap.size + 1, 1, none⟩ = some (.slice none 0 0) := (World.cell?_setCell_other _ _ _ _ (by simp)).trans q4
          have t4 : ((wo.setCell ⟨w.heap.size + 1, 0, none⟩ (.int .i64 a)).setCell ⟨w.heap.size + 1, 1, none⟩ (.slice ol i cl)).cell? ⟨w.heap.size + 1, 0, none⟩ = some (.int .i64 a) := (World.cell?_setCell_other _ _ _ _ (by simp)).trans (World.cell?_setCell_same _ _ _ q3)
          have t5 : ((wo.setCell ⟨w.heap.size + 1, 0, none⟩ (.int .i64 a)).setCell ⟨w.heap.size + 1, 1, none⟩ (.slice ol i cl)).cell? ⟨w.heap.size + 1, 1, none⟩ = some (.slice ol i cl) := World.cell?_setCell_same _ _ _ t3
          have HE6 : Hid (WksL ((wo.setCell ⟨w.heap.size + 1, 0, none⟩ (.int .i64 a)).setCell ⟨w.heap.size + 1, 1, none⟩ (.slice ol i cl)) w.heap.size (.slice ol i cl) i (fun i => dayV H s (a + i)) ∧ Below w.heap.size w ((wo.setCell ⟨w.heap.size + 1, 0, none⟩ (.int .i64 a)).setCell ⟨w.heap.size + 1, 1, none⟩ (.slice ol i cl))) := Lib.hid (by
            have hq : ∀ e : (Value.slice ol i cl).ownBlock = some (w.heap.size + 1), False := fun e => by have h5 := (HWk.out.lt _ e).1; have h6 := HZ5.out; omega
            have hb : Below w.heap.size w wo := (thenB HBD.out HBk.out).grown HGx.out (by have := HZ5.out; omega) (fun k hk => by cases hk; omega)
            have hl : WksL ((wo.setCell ⟨w.heap.size + 1, 0, none⟩ (.int .i64 a)).setCell ⟨w.heap.size + 1, 1, none⟩ (.slice ol i cl)) w5.heap.size (.slice ol i cl) i (fun i => dayV H s (a + i)) := ownsRow_setCell_other (ownsRow_setCell_other HWk.out (fun e => hq e) _) (fun e => hq e) _
            refine ⟨⟨hl.1, ?_⟩, (hb.setCell (by show w.heap.size ≤ w.heap.size + 1; omega) _).setCell (by show w.heap.size ≤ w.heap.size + 1; omega) _⟩
            rcases hl.2 with h2 | ⟨g, cap, cur, h3, h4, h5⟩
            · exact .inl h2
            · exact .inr ⟨g, cap, cur, h3, by have := HZ5.out; omega, h5⟩)
          clear q0 q1 q2
          go_wp2_with fail
          exact bodyPost_ret (v := .agg #[.int .i64 a, .slice ol i cl]) (by simp [results, Tryz.results33, go_sem, t4, t5]) rfl ⟨_, rfl, HE6.out.1, HE6.out.2⟩
end Go.Proofs.YtbgcccfgcdkmdaaGreatDoor
