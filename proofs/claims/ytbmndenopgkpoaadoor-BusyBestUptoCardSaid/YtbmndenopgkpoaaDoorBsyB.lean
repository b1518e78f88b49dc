/- Lists of numbers that came in; the library's Grow and Concat over numbers. -/
import Derived.Test.YtbmndenopgkpoaaDoorBsyI
import Derived.Test.YtbmndenopgkpoaaDoorBsyLayB
import Derived.Test.YtbmndenopgkpoaaDoorMomB
namespace Go.Proofs.YtbmndenopgkpoaaDoor
open Go.RowKit Go.Shelf Wrk
/-- Numbers that came in. -/
def IntC (w : World) (v : Value) (l : List Int) : Prop := ∃ ob cap, v = .slice ob l.length cap ∧ (ob = none → l = [] ∧ cap = 0) ∧ ∀ a, ob = some a → (0 < l.length → a.block < w.heap.size) ∧ ∀ k, k < l.length → w.cell? (a.add k) = some (.int .i64 (l.getD k 0))
theorem IntC.call {w w' : World} {v : Value} {l : List Int} (h : IntC w v l) (hb : Below w.heap.size w w') : IntC w' v l := by
  obtain ⟨oa, cap, h1, h2, h3⟩ := h
  refine ⟨oa, cap, h1, h2, fun a ha => ⟨fun h0 => Nat.lt_of_lt_of_le ((h3 a ha).1 h0) hb.size, fun k hk => ?_⟩⟩
  exact (hb.cell (p := a.add k) (by rw [add_block]; exact (h3 a ha).1 (by omega))).trans ((h3 a ha).2 k hk)
theorem IntC.nil (w : World) : IntC w (.slice none 0 0) [] := ⟨none, 0, rfl, fun _ => ⟨rfl, rfl⟩, fun a h => by cases h⟩
theorem IntC.at {w : World} {oa : Option Addr} {n cap : Nat} {l : List Int} (h : IntC w (.slice oa n cap) l) {k : Nat} (hk : k < l.length) : ∃ a, oa = some a ∧ w.cell? (a.add k) = some (.int .i64 (l.getD k 0)) := by
  obtain ⟨ob, c, h1, h2, h3⟩ := h
  cases h1
  cases oa with
  | none => obtain ⟨rfl, _⟩ := h2 rfl; simp at hk
  | some a => exact ⟨a, rfl, (h3 a rfl).2 k hk⟩
theorem IntC.news {w : World} {v : Value} {l : List Int} (h : IntC w v l) : (v = .slice none 0 0 ∧ l.length = 0 ∧ intV l = []) ∨ ∃ ad c, v = .slice (some ad) l.length c ∧ (intV l).length = l.length * 1 ∧ (∀ j u, (intV l)[j]? = some u → w.cell? (ad.add j) = some u) ∧ ∀ u ∈ intV l, u.oneCell' = true := by
  obtain ⟨ob, cap, h1, h2, h3⟩ := h
  cases ob with
  | none =>
    obtain ⟨rfl, rfl⟩ := h2 rfl
    exact .inl ⟨h1, rfl, rfl⟩
  | some ad =>
    refine .inr ⟨ad, cap, h1, by simp [intV], fun j u hj => ?_, fun u hu => ?_⟩
    · have hjl : j < l.length := by have := (List.getElem?_eq_some_iff.1 hj).1; simpa [intV] using this
      rw [(h3 ad rfl).2 j hjl, ← hj]
      simp [intV, List.getD, hjl]
    · obtain ⟨x, _, rfl⟩ := List.mem_map.1 hu
      rfl
theorem IntL.toC {w : World} {b : Nat} {v : Value} {l : List Int} (h : IntL w b v l) : IntC w v l := by
  rcases h.2 with ⟨e, h0⟩ | ⟨g, cap, cur, e, h3⟩
  · have : l = [] := List.eq_nil_of_length_eq_zero h0
    subst this
    subst e
    exact IntC.nil w
  · refine ⟨some ⟨g, 0, none⟩, cap, e, fun h => (by cases h), fun a ha => ?_⟩
    injection ha with ha
    subst ha
    refine ⟨fun _ => (Array.getElem?_eq_some_iff.1 h3.2.1).1, fun k hk => ?_⟩
    have h1 := World.ownsRow.cells h (g := g) (by rw [e]; rfl) k (.int .i64 (l.getD k 0)) (by simp [intV, List.getD, hk])
    exact h1
theorem int_infoB : (Tryd.prog.info? 3).map (fun i => (i.zero, i.size, i.bytes)) = some (some (.int .i64 0), 1, 8) := by kernel_rfl
theorem growI_any (n : Nat) (w : World) (hn : n ≤ 4000000000) :
    Calls Tryd.prog 47 #[.slice none 0 0, .int .i64 (n : Int)] w fun e w' => ∃ v, e = .returned v ∧ w'.ownsRow w.heap.size 3 1 v 0 [] ∧ Below w.heap.size w w' := by
  by_cases h0 : n = 0
  · subst h0
    have hcon := Any8.slices_Grow_room growInt none 0 0 0 w (Nat.le_refl _) (by omega) (by omega) (Nat.le_refl _)
    change Calls Tryd.prog 47 _ _ _ at hcon
    refine hcon.mono ?_
    rintro e w' ⟨rfl, rfl⟩
    exact ⟨_, rfl, World.ownsRow_nil _ _ _ _, Below.refl _ _⟩
  · obtain ⟨i0, hi0, hz0, hz1, hz2⟩ := info_parts int_infoB
    have hcon := Any8.slices_Grow_grow growInt i0 (.int .i64 0) hi0 hz0 (by rw [hz1]; omega) none 0 0 n [] w (Nat.le_refl _) (by omega) (by rw [hz2]; omega) (by omega) (by simp) (fun _ => rfl) (fun a h => by cases h)
    change Calls Tryd.prog 47 _ _ _ at hcon
    refine hcon.mono ?_
    rintro e w' ⟨rfl, hw⟩
    have hG : 0 + n ≤ grownCap w (0 + n) 0 (growInt_ren.t 25) := grownCap_ge w _ _ _
    obtain ⟨C, hC⟩ : ∃ C, ([] : List Value).toArray ++ Builtin.zeroCells (Value.int .i64 0).cells (0 + n - 0) ++ Builtin.zeroCells (Value.int .i64 0).cells (grownCap w (0 + n) 0 (growInt_ren.t 25) - (0 + n)) = C := ⟨_, rfl⟩
    rw [hC] at hw
    have hw2 : w' = w.drew.alloc (.cells C 3) := hw
    have hz : ∀ k, (Builtin.zeroCells (Value.int .i64 0).cells k).size = k * 1 := fun k => by simp [Builtin.zeroCells, Value.cells]
    have hsz : C.size = grownCap w (0 + n) 0 (growInt_ren.t 25) * 1 := by
      rw [← hC, Array.size_append, Array.size_append, hz, hz, List.size_toArray, List.length_nil]
      omega
    subst hw2
    refine ⟨_, rfl, ⟨rfl, .inr ⟨w.heap.size, _, C, rfl, Nat.le_refl _, ?_, Nat.zero_le _, grownCap_le_maxLen w _ _ _ (by unfold maxLen; omega), hsz, by simp⟩⟩, (below_drew (Below.refl _ w)).alloc (Nat.le_refl _) _⟩
    show (w.heap.push _)[w.heap.size]? = _
    simp
set_option maxRecDepth 100000 in
set_option maxHeartbeats 4000000 in
theorem concatI_any (X : Nat) (v0 v1 : Value) (l0 l1 : List Int) (w : World) (h0 : IntC w v0 l0) (h1 : IntC w v1 l1) (hl : l0.length + l1.length ≤ 1000000000) (c0 : w.cell? ⟨X, 0, none⟩ = some v0) (c1 : w.cell? ⟨X, 1, none⟩ = some v1) :
    Calls Tryd.prog 33 #[.slice (some ⟨X, 0, none⟩) 2 2] w fun e w' => ∃ v, e = .returned v ∧ IntL w' w.heap.size v (l0 ++ l1) ∧ Below w.heap.size w w' := by
  obtain ⟨n0, hn0⟩ : ∃ n, l0.length = n := ⟨_, rfl⟩
  obtain ⟨n1, hn1⟩ : ∃ n, l1.length = n := ⟨_, rfl⟩
  rw [hn0, hn1] at hl
  have H0 := Lib.hid h0
  have H1 := Lib.hid h1
  have HN0 := Lib.hid hn0
  have HN1 := Lib.hid hn1
  obtain ⟨o0, p0, rfl, -, -⟩ := h0
  obtain ⟨o1, p1, rfl, -, -⟩ := h1
  rw [hn0] at c0 H0
  rw [hn1] at c1 H1
  have HC0 := Lib.hid c0
  have HC1 := Lib.hid c1
  have hXl := World.block_lt_of_cell? _ _ c0
  clear hn0 hn1
  obtain ⟨i0, hi0, hz0, hz1, hz2⟩ := info_parts int_infoB
  go_enter Tryd.func33, Tryd.ntmps33
  go_wp2_with fail
  go_loopw [3, 11] (fun z c wr => ∃ (Z : Int) (k : Nat), z = .int .i64 Z ∧ c = .int .i64 (k : Int) ∧ Hid ((k = 0 ∧ Z = 0) ∨ (k = 1 ∧ Z = n0) ∨ (k = 2 ∧ Z = ((n0 + n1 : Nat) : Int))) ∧ wr = w) (fun _ c _ => 2 - (intOf c).toNat)
  case atStart => exact ⟨0, 0, rfl, rfl, Lib.hid (.inl ⟨rfl, rfl⟩), rfl⟩
  case round =>
    obtain ⟨Z, k, rfl, rfl, HK, hwr⟩ := hrel
    have hwr2 := hwr.symm
    subst hwr2
    clear hwr
    rcases HK.out with ⟨rfl, rfl⟩ | ⟨rfl, rfl⟩ | ⟨rfl, rfl⟩
    · go_wp2_with fail
      go_roundw
      case rel => exact ⟨n0, 1, by simp, by simp, Lib.hid (.inr (.inl ⟨rfl, rfl⟩)), by first | rfl | trivial⟩
      case measure => simp [intOf]
    · go_wp2_with fail
      go_roundw
      case rel => exact ⟨((n0 + n1 : Nat) : Int), 2, by go_num, by simp, Lib.hid (.inr (.inr ⟨rfl, rfl⟩)), by first | rfl | trivial⟩
      case measure => simp [intOf]
    · clear HK
      go_wp2_with fail
      refine (growI_any (n0 + n1) _ (by omega)).mono ?_
      rintro e w2 ⟨v, rfl, hv, hb⟩
      have HV := Lib.hid hv
      have HB := Lib.hid hb
      clear hv hb
      go_wp2_with fail
      go_loopw [6, 27] (fun v c wr => ∃ (k : Nat), c = .int .i64 (k : Int) ∧ Hid ((k = 0 ∧ wr.ownsRow w.heap.size 3 1 v 0 []) ∨ (k = 1 ∧ wr.ownsRow w.heap.size 3 1 v n0 (intV l0)) ∨ (k = 2 ∧ wr.ownsRow w.heap.size 3 1 v (n0 + n1) (intV l0 ++ intV l1))) ∧ Hid (Below w.heap.size w wr)) (fun _ c _ => 2 - (intOf c).toNat)
      case atStart => exact ⟨0, rfl, Lib.hid (.inl ⟨rfl, HV.out⟩), HB⟩
      case round =>
        clear HV HB c0 c1
        obtain ⟨k, rfl, HK, HB⟩ := hrel
        obtain ⟨wB, rfl⟩ : ∃ wo : World, wo = wr := ⟨_, rfl⟩
        have c0 := (HB.out.cell (p := ⟨X, 0, none⟩) hXl).trans HC0.out
        have c1 := (HB.out.cell (p := ⟨X, 1, none⟩) hXl).trans HC1.out
        have hXB := Nat.lt_of_lt_of_le hXl HB.out.size
        rcases HK.out with ⟨rfl, hO⟩ | ⟨rfl, hO⟩ | ⟨rfl, hO⟩
        · have HO := Lib.hid hO
          clear hO HK
          go_wp2_with (at_builtin; refine wpList_append_anyM rfl (.tmp 31) (.tmp 32) 23 rfl w.heap.size 3 i0 (.int .i64 0) 1 8 Tryd.underlying23 hi0 hz0 hz1 hz2 rfl (by decide) _ 0 ([]) rfl HO.out _ n0 (intV l0) rfl (by have h9 := (H0.out.call HB.out).news; rw [HN0.out] at h9; exact h9) (by unfold maxLen; omega) (by omega) HB.out.size ?_; intro v3 w3 hown hgrow)
          have hlt8 := HO.out.lt
          have HB3 := Lib.hid (HB.out.trans ((Below.refl w.heap.size wB).grown hgrow HB.out.size (fun k hk => (hlt8 k hk).1)))
          have HO3 := Lib.hid hown
          clear hown hgrow hlt8
          go_wp2_with fail
          go_roundw
          case rel => exact ⟨1, by simp, Lib.hid (.inr (.inl ⟨rfl, by have := HO3.out; simpa using this⟩)), HB3⟩
          case measure => simp [intOf]
        · have HO := Lib.hid hO
          clear hO HK
          go_wp2_with (at_builtin; refine wpList_append_anyM rfl (.tmp 31) (.tmp 32) 23 rfl w.heap.size 3 i0 (.int .i64 0) 1 8 Tryd.underlying23 hi0 hz0 hz1 hz2 rfl (by decide) _ n0 (intV l0) rfl HO.out _ n1 (intV l1) rfl (by have h9 := (H1.out.call HB.out).news; rw [HN1.out] at h9; exact h9) (by unfold maxLen; omega) (by omega) HB.out.size ?_; intro v3 w3 hown hgrow)
          have hlt8 := HO.out.lt
          have HB3 := Lib.hid (HB.out.trans ((Below.refl w.heap.size wB).grown hgrow HB.out.size (fun k hk => (hlt8 k hk).1)))
          have HO3 := Lib.hid hown
          clear hown hgrow hlt8
          go_wp2_with fail
          go_roundw
          case rel => exact ⟨2, by simp, Lib.hid (.inr (.inr ⟨rfl, HO3.out⟩)), HB3⟩
          case measure => simp [intOf]
        · have HO := Lib.hid hO
          clear hO HK c0 c1
          go_wp2_with fail
          go_ret
          refine ⟨_, rfl, ?_, HB.out⟩
          have := HO.out
          unfold IntL intV; unfold intV at this; rw [List.length_append, HN0.out, HN1.out, List.map_append]
          exact this
end Go.Proofs.YtbmndenopgkpoaaDoor
