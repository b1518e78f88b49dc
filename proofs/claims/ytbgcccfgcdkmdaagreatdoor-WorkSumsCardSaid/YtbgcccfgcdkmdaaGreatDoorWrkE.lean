/- Lists of days; where a holiday goes; the first day of a year. -/
import Derived.Test.YtbgcccfgcdkmdaaGreatDoorWrkA
import Derived.Test.YtbgcccfgcdkmdaaGreatDoorDaysO
import Derived.Test.YtbgcccfgcdkmdaaGreatDoorDaysQ
import Derived.Test.YtbgcccfgcdkmdaaGreatDoorDaysU
import Derived.Deep.CutRange
import Derived.Sort.OwnSortedInts
import Derived.Laws.OwnMore
import Derived.Deep.AppendLies
namespace Go.Proofs.YtbgcccfgcdkmdaaGreatDoor
open Go.RowKit Wrk
theorem World.cells_one (w : World) (v : Value) (t : TypeId) : ∀ j u, [v][j]? = some u → (w.alloc (.cells #[v] t)).cell? ((⟨w.heap.size, 0, none⟩ : Addr).add j) = some u := by
  intro j u h
  have hj : j = 0 := by
    rcases j with _ | j
    · rfl
    · simp at h
  subst hj
  simp at h
  subst h
  simp [Addr.add]
def intV (l : List Int) : List Value := l.map (Value.int .i64)
theorem intV_snoc (l : List Int) (x : Int) : intV (l ++ [x]) = intV l ++ [.int .i64 x] := by simp [intV]
/-- A list of numbers of the call's own. -/
def IntL (w : World) (b : Nat) (v : Value) (l : List Int) : Prop := w.ownsRow b 3 1 v l.length (intV l)
theorem IntL.call {w w' : World} {b : Nat} {v : Value} {l : List Int} (h : IntL w b v l) (hb : Below w.heap.size w w') : IntL w' b v l :=
  World.ownsRow.kept (row := none) h ⟨hb.os, hb.tape, hb.output, hb.size, fun k hk _ => hb.block k hk⟩ (by cases hv : v.ownBlock <;> simp)
theorem IntL.nil (w : World) (b : Nat) : IntL w b (.slice none 0 0) [] := World.ownsRow_nil _ _ _ _
theorem IntL.form {w : World} {b : Nat} {v : Value} {l : List Int} (h : IntL w b v l) : ∃ oa cap, v = .slice oa l.length cap := by
  rcases h.2 with ⟨rfl, h0⟩ | ⟨g, cap, cur, rfl, _⟩
  · exact ⟨none, 0, by rw [h0]⟩
  · exact ⟨_, cap, rfl⟩
theorem IntL.at {w : World} {b : Nat} {oa : Option Addr} {n cap : Nat} {l : List Int} (h : IntL w b (.slice oa n cap) l) {k : Nat} (hk : k < l.length) :
    ∃ g, oa = some ⟨g, 0, none⟩ ∧ b ≤ g ∧ g < w.heap.size ∧ w.cell? ⟨g, k, none⟩ = some (.int .i64 (l.getD k 0)) ∧ w.frozen? ⟨g, k, none⟩ = false := by
  obtain ⟨g, c, e, hb, hg⟩ := World.ownsRow.form h (by omega)
  cases e
  have h1 := World.ownsRow.cells h (g := g) rfl k (.int .i64 (l.getD k 0)) (by simp [intV, List.getD, hk])
  rw [Addr.add_lit, Nat.zero_add] at h1
  exact ⟨g, rfl, hb, hg, h1, World.ownsRow.frozenAt h k⟩
theorem IntL.low {w : World} {b c : Nat} {v : Value} {l : List Int} (h : IntL w c v l) (hb : b ≤ c) : IntL w b v l := by
  refine ⟨h.1, ?_⟩
  rcases h.2 with h2 | ⟨g, cap, cur, h3, h4, h5⟩
  · exact .inl h2
  · exact .inr ⟨g, cap, cur, h3, Nat.le_trans hb h4, h5⟩
theorem IntL.one (w : World) {b : Nat} (hb : b ≤ w.heap.size) (x : Int) : IntL (w.alloc (.cells #[.int .i64 x] 3)) b (.slice (some ⟨w.heap.size, 0, none⟩) 1 1) [x] :=
  ⟨rfl, .inr ⟨w.heap.size, 1, #[.int .i64 x], rfl, hb, heap_alloc_new w _, Nat.le_refl _, by decide, rfl, rfl⟩⟩
theorem mv_bd (how d : Int) : d - 1 ≤ mv how d ∧ mv how d ≤ d + 2 := by
  unfold mv
  have := Dm.wd_bd d
  split
  · omega
  · split <;> omega
set_option maxRecDepth 100000 in
set_option maxHeartbeats 4000000 in
theorem moved_any (d how : Int) (w : World) (h1 : -5000000 ≤ d) (h2 : d ≤ 5000000) : Calls Tryz.prog 59 #[.int .i64 d, .int .i64 how] w fun e w' => e = .returned (.int .i64 (mv how d)) ∧ w = w' := by
  obtain ⟨r, hr⟩ : ∃ r, mv how d = r := ⟨_, rfl⟩
  rw [hr]
  unfold mv at hr
  have CW : Hid (∀ w0, Calls Tryz.prog 75 #[.int .i64 d] w0 fun e w' => e = .returned (.int .i64 (Dm.wd d)) ∧ w0 = w') := Lib.hid fun w0 => weekday_any d w0 (InI.mk (by omega) (by omega))
  have hb := Dm.wd_bd d
  obtain ⟨u, hu⟩ : ∃ u, Dm.wd d = u := ⟨_, rfl⟩
  rw [hu] at CW hr hb
  have HR := Lib.hid hr
  clear hr hu
  by_cases c0 : how = 0
  · subst c0
    have e : r = d := HR.out.symm.trans (if_pos (.inl rfl))
    subst e
    go_enter Tryz.func59, Tryz.ntmps59
    go_wp2_with (go_at_call 75; refine (CW.out _).mono ?_; rintro e w2 ⟨rfl, rfl⟩)
    go_ret
    exact ⟨rfl, rfl⟩
  · have b0 : (how == 0) = false := beq_eq_false_iff_ne.2 c0
    by_cases c1 : u < 6
    · have e : r = d := HR.out.symm.trans (if_pos (.inr c1))
      subst e
      go_enter Tryz.func59, Tryz.ntmps59
      go_wp2_with (go_at_call 75; refine (CW.out _).mono ?_; rintro e w2 ⟨rfl, rfl⟩)
      go_ret
      exact ⟨rfl, rfl⟩
    · have HR1 := Lib.hid (HR.out.symm.trans (if_neg (by omega)))
      have hw1 : wrap64 (d - 1) = d - 1 := wrap_in (InI.mk (by omega) (by omega))
      have hw2 : wrap64 (d + 8) = d + 8 := wrap_in (InI.mk (by omega) (by omega))
      have hw3 : wrap64 (d + 8 - u) = d + 8 - u := wrap_in (InI.mk (by omega) (by omega))
      by_cases c2 : how = 2
      · subst c2
        by_cases c3 : u = 6
        · subst c3
          have e : r = d - 1 := HR1.out.trans (if_pos ⟨rfl, rfl⟩)
          subst e
          go_enter Tryz.func59, Tryz.ntmps59
          go_wp2_with (go_at_call 75; refine (CW.out _).mono ?_; rintro e w2 ⟨rfl, rfl⟩)
          go_ret
          exact ⟨rfl, rfl⟩
        · have b3 : (u == 6) = false := beq_eq_false_iff_ne.2 c3
          have e : r = d + 8 - u := HR1.out.trans (if_neg (by omega))
          subst e
          go_enter Tryz.func59, Tryz.ntmps59
          go_wp2_with (go_at_call 75; refine (CW.out _).mono ?_; rintro e w2 ⟨rfl, rfl⟩)
          go_ret
          exact ⟨rfl, rfl⟩
      · have b2 : (how == 2) = false := beq_eq_false_iff_ne.2 c2
        have e : r = d + 8 - u := HR1.out.trans (if_neg (by omega))
        subst e
        go_enter Tryz.func59, Tryz.ntmps59
        go_wp2_with (go_at_call 75; refine (CW.out _).mono ?_; rintro e w2 ⟨rfl, rfl⟩)
        go_ret
        exact ⟨rfl, rfl⟩
theorem y1_bd (y : Int) (h1 : 1 ≤ y) (h2 : y ≤ 10000) : -800000 ≤ y1 y ∧ y1 y ≤ 3000000 ∧ y1 y < y1 (y + 1) ∧ y1 (y + 1) ≤ y1 y + 366 := by
  unfold y1
  have e : ∀ z, Dm.start 1 z = Dm.gStart z := fun z => by unfold Dm.start; rw [if_pos rfl]
  rw [e, e]
  have hf : Dm.first 1 = -719162 := by decide
  rw [hf]
  unfold Dm.gStart
  omega
theorem jan_valid (y : Int) (h1 : 1 ≤ y) (h2 : y ≤ 10000) : Dm.Valid 1 y 1 1 ∧ Dm.dayOf 1 y 1 1 = y1 y := by
  constructor
  · refine ⟨by omega, by omega, by omega, by simp [Dm.months], by omega, by simp [Dm.length, Dm.roman]⟩
  · unfold y1 Dm.dayOf
    simp [Dm.upTo]
set_option maxRecDepth 100000 in
set_option maxHeartbeats 4000000 in
theorem first_year (y : Int) (w : World) (hr : RomanT w) (h1 : 1 ≤ y) (h2 : y ≤ 10000) : Calls Tryz.prog 72 #[.int .i64 y] w fun e w' => e = .returned (.int .i64 (y1 y)) ∧ Below w.heap.size w w' := by
  have hb := y1_bd y h1 h2
  obtain ⟨hv, hd⟩ := jan_valid y h1 h2
  obtain ⟨e1, e2⟩ := dayE_back (by omega) (by omega) hv hd (by omega) (by omega)
  have CD : Hid (∀ w0, RomanT w0 → Calls Tryz.prog 93 #[.agg #[.int .i64 1, .int .i64 y, .int .i64 1, .int .i64 1]] w0 fun e w' => e = .returned (.tuple #[.int .i64 (y1 y), .nilIface]) ∧ Below w0.heap.size w0 w') := Lib.hid fun w0 h => by
    have := day_all 1 y 1 1 w0 h
    rw [e1, e2, errV_nil] at this
    exact this
  have HR := Lib.hid hr
  clear e1 e2 hv hd hr
  go_enter Tryz.func72, Tryz.ntmps72
  go_wp2_with (go_at_call 93; (with_reducible refine (CD.out _ HR.out).mono ?_); rintro e w2 ⟨rfl, hb⟩)
  go_ret
  exact ⟨rfl, hb⟩
end Go.Proofs.YtbgcccfgcdkmdaaGreatDoor
