/- The library's Grow and Concat over texts. -/
import Derived.Test.YtdnbnpknmdcljaaDoorCrnI
import Derived.Test.YtdnbnpknmdcljaaDoorCrnLayB
import Derived.Laws.AppendOwnNone
namespace Go.Proofs.YtdnbnpknmdcljaaDoor
open Go.RowKit Go.Shelf
/-- append of a row that may be empty. -/
theorem wpList_append_anyM {P : Program} {w : World} {ops : Array Oper} {rest : List Oper} {o : Oper} {a : Act} {Q : Exit → Act → World → Prop} (hgd : o.guard = none) (s x : Operand) (t : TypeId)
    (ho : o.op = .call { callee := .builtin .append, args := #[s, x], argTypes := #[t, t] })
    (base : Nat) (e : TypeId) (i : TypeInfo) (z : Value) (size bytes : Nat) (ht : P.underlying t = some (.slice e)) (hi : P.info? e = some i) (hz : i.zero = some z)
    (hsize : i.size = size) (hby : i.bytes = bytes) (hzs : z.cells.size = size) (hsz : 0 < size)
    (v : Value) (n : Nat) (xs : List Value) (hs : a.eval s = v) (hown : w.ownsRow base e size v n xs)
    (xv : Value) (m : Nat) (news : List Value) (hx : a.eval x = xv)
    (hxv : (xv = .slice none 0 0 ∧ m = 0 ∧ news = []) ∨ ∃ ad c, xv = .slice (some ad) m c ∧ news.length = m * size ∧ (∀ j u, news[j]? = some u → w.cell? (ad.add j) = some u) ∧ ∀ u ∈ news, u.oneCell' = true)
    (h63 : n + m ≤ maxLen) (hbytes : (n + m) * bytes ≤ 140737488355328) (hbase : base ≤ w.heap.size)
    (h : ∀ v' w', w'.ownsRow base e size v' (n + m) (xs ++ news) → w.grownBy w' v.ownBlock → wpList P ops Q rest (a.put o.dst v') w') : wpList P ops Q (o :: rest) a w := by
  rcases hxv with ⟨h1, rfl, rfl⟩ | ⟨ad, c, h1, h2, h3, h4⟩
  · exact wpList_append_own_none hgd s x t ho base e i size ht hi v n xs hs hown (hx.trans h1) (h v w (by simpa using hown) ⟨rfl, rfl, rfl, Nat.le_refl _, fun _ _ _ => rfl⟩)
  · exact wpList_append_own w hgd s x t ho base e i z size bytes ht hi hz hsize hby hzs hsz v n xs hs hown ad m c news (hx.trans h1) h2 h3 h4 h63 hbytes hbase fun v' w' a b _ => h v' w' a b
theorem strV_app (l m : List (List UInt8)) : strV (l ++ m) = strV l ++ strV m := by simp [strV]
theorem StrL.news {w : World} {b : Nat} {v : Value} {l : List (List UInt8)} (h : StrL w b v l) : (v = .slice none 0 0 ∧ l.length = 0 ∧ strV l = []) ∨ ∃ ad c, v = .slice (some ad) l.length c ∧ (strV l).length = l.length * 1 ∧ (∀ j u, (strV l)[j]? = some u → w.cell? (ad.add j) = some u) ∧ ∀ u ∈ strV l, u.oneCell' = true := by
  have hcell := fun (g : Nat) (hg : v.ownBlock = some g) => World.ownsRow.cells h hg
  rcases h.2 with ⟨rfl, h0⟩ | ⟨g, cap, cur, rfl, _⟩
  · exact .inl ⟨rfl, h0, by rw [List.eq_nil_of_length_eq_zero h0]; rfl⟩
  · refine .inr ⟨⟨g, 0, none⟩, cap, rfl, by rw [strV_len, Nat.mul_one], hcell g rfl, fun u hu => ?_⟩
    unfold strV at hu
    obtain ⟨x, _, rfl⟩ := List.mem_map.1 hu
    rfl
theorem grow_any (n : Nat) (w : World) (hn : n ≤ 4000000000) :
    Calls Tryd.prog 23 #[.slice none 0 0, .int .i64 (n : Int)] w fun e w' => ∃ v, e = .returned v ∧ w'.ownsRow w.heap.size 9 1 v 0 [] ∧ Below w.heap.size w w' := by
  by_cases h0 : n = 0
  · subst h0
    have hcon := Any8.slices_Grow_room growStr none 0 0 0 w (Nat.le_refl _) (by omega) (by omega) (Nat.le_refl _)
    change Calls Tryd.prog 23 _ _ _ at hcon
    refine hcon.mono ?_
    rintro e w' ⟨rfl, rfl⟩
    exact ⟨_, rfl, World.ownsRow_nil _ _ _ _, Below.refl _ _⟩
  · obtain ⟨i0, hi0, hz0, hz1, hz2⟩ := info_parts str_info
    have hcon := Any8.slices_Grow_grow growStr i0 (.string ⟨#[]⟩) hi0 hz0 (by rw [hz1]; omega) none 0 0 n [] w (Nat.le_refl _) (by omega) (by rw [hz2]; omega) (by omega) (by simp) (fun _ => rfl) (fun a h => by cases h)
    change Calls Tryd.prog 23 _ _ _ at hcon
    refine hcon.mono ?_
    rintro e w' ⟨rfl, hw⟩
    have hG : 0 + n ≤ grownCap w (0 + n) 0 (growStr_ren.t 25) := grownCap_ge w _ _ _
    obtain ⟨C, hC⟩ : ∃ C, ([] : List Value).toArray ++ Builtin.zeroCells (Value.string ⟨#[]⟩).cells (0 + n - 0) ++ Builtin.zeroCells (Value.string ⟨#[]⟩).cells (grownCap w (0 + n) 0 (growStr_ren.t 25) - (0 + n)) = C := ⟨_, rfl⟩
    rw [hC] at hw
    have hw2 : w' = w.drew.alloc (.cells C 9) := hw
    have hz : ∀ k, (Builtin.zeroCells (Value.string ⟨#[]⟩).cells k).size = k * 1 := fun k => by simp [Builtin.zeroCells, Value.cells]
    have hsz : C.size = grownCap w (0 + n) 0 (growStr_ren.t 25) * 1 := by
      rw [← hC, Array.size_append, Array.size_append, hz, hz, List.size_toArray, List.length_nil]
      omega
    subst hw2
    refine ⟨_, rfl, ⟨rfl, .inr ⟨w.heap.size, _, C, rfl, Nat.le_refl _, ?_, Nat.zero_le _, grownCap_le_maxLen w _ _ _ (by unfold maxLen; omega), hsz, by simp⟩⟩, (below_drew (Below.refl _ w)).alloc (Nat.le_refl _) _⟩
    show (w.heap.push _)[w.heap.size]? = _
    simp
set_option maxRecDepth 100000 in
set_option maxHeartbeats 4000000 in
theorem concat_any (X : Nat) (v0 v1 : Value) (l0 l1 : List (List UInt8)) (B0 B1 : Nat) (w : World) (h0 : StrL w B0 v0 l0) (h1 : StrL w B1 v1 l1) (hl : l0.length + l1.length ≤ 1000000000) (c0 : w.cell? ⟨X, 0, none⟩ = some v0) (c1 : w.cell? ⟨X, 1, none⟩ = some v1) :
    Calls Tryd.prog 16 #[.slice (some ⟨X, 0, none⟩) 2 2] w fun e w' => ∃ v, e = .returned v ∧ StrL w' w.heap.size v (l0 ++ l1) ∧ Below w.heap.size w w' := by
  obtain ⟨n0, hn0⟩ : ∃ n, l0.length = n := ⟨_, rfl⟩
  obtain ⟨n1, hn1⟩ : ∃ n, l1.length = n := ⟨_, rfl⟩
  rw [hn0, hn1] at hl
  have H0 := Lib.hid h0
  have H1 := Lib.hid h1
  have HN0 := Lib.hid hn0
  have HN1 := Lib.hid hn1
  obtain ⟨o0, p0, rfl⟩ := h0.form
  obtain ⟨o1, p1, rfl⟩ := h1.form
  rw [hn0] at c0 H0
  rw [hn1] at c1 H1
  have HC0 := Lib.hid c0
  have HC1 := Lib.hid c1
  have hXl := World.block_lt_of_cell? _ _ c0
  clear hn0 hn1
  obtain ⟨i0, hi0, hz0, hz1, hz2⟩ := info_parts str_info
  go_enter Tryd.func16, Tryd.ntmps16
  go_wp2_with fail
  go_loopw [3, 11] (fun z c wr => ∃ (Z : Int) (k : Nat), z = .int .i64 Z ∧ c = .int .i64 (k : Int) ∧ Hid ((k = 0 ∧ Z = 0) ∨ (k = 1 ∧ Z = n0) ∨ (k = 2 ∧ Z = ((n0 + n1 : Nat) : Int))) ∧ wr = w) (fun _ c _ => 2 - (intOf c).toNat)
  case atStart => exact ⟨0, 0, rfl, rfl, Lib.hid (.inl ⟨rfl, rfl⟩), rfl⟩
  case round =>
    obtain ⟨Z, k, rfl, rfl, HK, hwr⟩ := hrel
    have hwr2 := hwr.symm
    subst hwr2
    clear hwr
    rcases HK.out with ⟨rfl, rfl⟩ | ⟨rfl, rfl⟩ | ⟨rfl, rfl⟩
    · go_wp2_with fail
      go_roundw
      case rel => exact ⟨n0, 1, by simp, by simp, Lib.hid (.inr (.inl ⟨rfl, rfl⟩)), by first | rfl | trivial⟩
      case measure => simp [intOf]
    · go_wp2_with fail
      go_roundw
      case rel => exact ⟨((n0 + n1 : Nat) : Int), 2, by go_num, by simp, Lib.hid (.inr (.inr ⟨rfl, rfl⟩)), by first | rfl | trivial⟩
      case measure => simp [intOf]
    · clear HK
      go_wp2_with fail
      refine (grow_any (n0 + n1) _ (by omega)).mono ?_
      rintro e w2 ⟨v, rfl, hv, hb⟩
      have HV := Lib.hid hv
      have HB := Lib.hid hb
      clear hv hb
      go_wp2_with fail
      go_loopw [6, 27] (fun v c wr => ∃ (k : Nat), c = .int .i64 (k : Int) ∧ Hid ((k = 0 ∧ wr.ownsRow w.heap.size 9 1 v 0 []) ∨ (k = 1 ∧ wr.ownsRow w.heap.size 9 1 v n0 (strV l0)) ∨ (k = 2 ∧ wr.ownsRow w.heap.size 9 1 v (n0 + n1) (strV l0 ++ strV l1))) ∧ Hid (Below w.heap.size w wr)) (fun _ c _ => 2 - (intOf c).toNat)
      case atStart => exact ⟨0, rfl, Lib.hid (.inl ⟨rfl, HV.out⟩), HB⟩
      case round =>
        clear HV HB c0 c1
        obtain ⟨k, rfl, HK, HB⟩ := hrel
        obtain ⟨wB, rfl⟩ : ∃ wo : World, wo = wr := ⟨_, rfl⟩
        have c0 := (HB.out.cell (p := ⟨X, 0, none⟩) hXl).trans HC0.out
        have c1 := (HB.out.cell (p := ⟨X, 1, none⟩) hXl).trans HC1.out
        have hXB := Nat.lt_of_lt_of_le hXl HB.out.size
        rcases HK.out with ⟨rfl, hO⟩ | ⟨rfl, hO⟩ | ⟨rfl, hO⟩
        · have HO := Lib.hid hO
          clear hO HK
          go_wp2_with (at_builtin; refine wpList_append_anyM rfl (.tmp 31) (.tmp 32) 45 rfl w.heap.size 9 i0 (.string ⟨#[]⟩) 1 16 Tryd.underlying45 hi0 hz0 hz1 hz2 rfl (by decide) _ 0 ([]) rfl HO.out _ n0 (strV l0) rfl (by have h9 := (H0.out.call HB.out).news; rw [HN0.out] at h9; exact h9) (by unfold maxLen; omega) (by omega) HB.out.size ?_; intro v3 w3 hown hgrow)
          have hlt8 := HO.out.lt
          have HB3 := Lib.hid (HB.out.trans ((Below.refl w.heap.size wB).grown hgrow HB.out.size (fun k hk => (hlt8 k hk).1)))
          have HO3 := Lib.hid hown
          clear hown hgrow hlt8
          go_wp2_with fail
          go_roundw
          case rel => exact ⟨1, by simp, Lib.hid (.inr (.inl ⟨rfl, by have := HO3.out; simpa using this⟩)), HB3⟩
          case measure => simp [intOf]
        · have HO := Lib.hid hO
          clear hO HK
          go_wp2_with (at_builtin; refine wpList_append_anyM rfl (.tmp 31) (.tmp 32) 45 rfl w.heap.size 9 i0 (.string ⟨#[]⟩) 1 16 Tryd.underlying45 hi0 hz0 hz1 hz2 rfl (by decide) _ n0 (strV l0) rfl HO.out _ n1 (strV l1) rfl (by have h9 := (H1.out.call HB.out).news; rw [HN1.out] at h9; exact h9) (by unfold maxLen; omega) (by omega) HB.out.size ?_; intro v3 w3 hown hgrow)
          have hlt8 := HO.out.lt
          have HB3 := Lib.hid (HB.out.trans ((Below.refl w.heap.size wB).grown hgrow HB.out.size (fun k hk => (hlt8 k hk).1)))
          have HO3 := Lib.hid hown
          clear hown hgrow hlt8
          go_wp2_with fail
          go_roundw
          case rel => exact ⟨2, by simp, Lib.hid (.inr (.inr ⟨rfl, HO3.out⟩)), HB3⟩
          case measure => simp [intOf]
        · have HO := Lib.hid hO
          clear hO HK c0 c1
          go_wp2_with fail
          go_ret
          refine ⟨_, rfl, ?_, HB.out⟩
          have := HO.out
          unfold StrL
          rw [List.length_append, HN0.out, HN1.out, strV_app]
          exact this
end Go.Proofs.YtdnbnpknmdcljaaDoor
