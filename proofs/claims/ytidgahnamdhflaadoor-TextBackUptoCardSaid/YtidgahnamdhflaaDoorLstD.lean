/- text.Items. -/
import Derived.Test.YtidgahnamdhflaaDoorLstC
namespace Go.Proofs.YtidgahnamdhflaaDoor
open Go.RowKit Go.Shelf Fld
theorem StrL.others {w w' : World} {b c : Nat} {v : Value} {l : List (List UInt8)} (h : StrL w c v l) (hbc : b < c) (hk : Kept b w w') : StrL w' c v l := by
  refine ⟨h.1, ?_⟩
  rcases h.2 with h2 | ⟨g, cap, cur, h3, h4, h5, h6⟩
  · exact .inl h2
  · exact .inr ⟨g, cap, cur, h3, h4, hk g _ h5 (by intro e; have := Option.some.inj e; omega) (by intro c fz e; cases e), h6⟩
theorem Bld.alloc {b : Nat} {l : List UInt8} {w : World} (h : Bld b l w) (o : Obj) : Bld b l (w.alloc o) := Lib.IsBuilderF.alloc h o
theorem Bld.lt {b : Nat} {l : List UInt8} {w : World} (h : Bld b l w) : b < w.heap.size := by
  rcases h with h | h
  · exact h.lt
  · exact h.lt
theorem bld_at {b : Nat} {p : Value} {bs : List Value} {w w' : World} {row : Option Nat} (h : Lib.BuilderAtF 72 5 b b p bs w) (hg : w.grownBy w' row) (hrow : ∀ g, row = some g → ∃ c z, w.heap[g]? = some (.cells c 9 z)) :
    Lib.BuilderAtF 72 5 b b p bs w' := by
  have hlt := h.lt
  obtain ⟨hB, v, hbk, hown, hne⟩ := h
  refine ⟨hB, v, ?_, ⟨hown.1, ?_⟩, hne⟩
  · rw [hg.block b hlt (fun e => by obtain ⟨c, z, hc⟩ := hrow b e.symm; rw [hbk] at hc; cases hc)]
    exact hbk
  · rcases hown.2 with h2 | ⟨g, cap, cur, fz, h3, h4, h5, h6⟩
    · exact .inl h2
    · refine .inr ⟨g, cap, cur, fz, h3, h4, ?_, h6⟩
      rw [hg.block g (Array.getElem?_eq_some_iff.1 h5).1 (fun e => by obtain ⟨c, z, hc⟩ := hrow g e.symm; rw [h5] at hc; cases hc)]
      exact h5
theorem Bld.grown {b : Nat} {l : List UInt8} {w w' : World} {row : Option Nat} (h : Bld b l w) (hg : w.grownBy w' row) (hrow : ∀ g, row = some g → ∃ c z, w.heap[g]? = some (.cells c 9 z)) : Bld b l w' :=
  h.elim (fun x => .inl (bld_at x hg hrow)) (fun x => .inr (bld_at x hg hrow))
theorem row_kind {w : World} {b n : Nat} {v : Value} {xs : List Value} (h : w.ownsRow b 9 1 v n xs) : ∀ g, v.ownBlock = some g → ∃ c z, w.heap[g]? = some (.cells c 9 z) := by
  intro g hg
  rcases h.2 with ⟨rfl, _⟩ | ⟨g', cap, cur, rfl, _, hgg, _⟩
  · simp [Value.ownBlock] at hg
  · simp [Value.ownBlock] at hg
    subst hg
    exact ⟨cur, _, hgg⟩
theorem bld_block {b : Nat} {l : List UInt8} {w : World} (h : Bld b l w) : ∃ p v, w.heap[b]? = some (.cells #[p, v] 72 (0, 0)) := by
  rcases h with ⟨_, v, h1, _⟩ | ⟨_, v, h1, _⟩
  · exact ⟨_, v, h1⟩
  · exact ⟨_, v, h1⟩
theorem reset_any (b : Nat) (l : List UInt8) (w : World) (h : Bld b l w) :
    Calls Tryd.prog 44 #[.pointer (some ⟨b, 0, none⟩)] w fun e w' => e = .returned (.tuple #[]) ∧ Bld b [] w' ∧ Below b w w' ∧ Kept b w w' := by
  obtain ⟨p, v, hbk⟩ := bld_block h
  have c0 : w.cell? ⟨b, 0, none⟩ = some p := by rw [Lib.cell_of_heap hbk]; rfl
  have c1 : w.cell? ⟨b, 1, none⟩ = some v := by rw [Lib.cell_of_heap hbk]; rfl
  have f0 : w.frozen? ⟨b, 0, none⟩ = false := Lib.frozen_of_heap hbk 0
  have f1 : w.frozen? ⟨b, 1, none⟩ = false := Lib.frozen_of_heap hbk 1
  have h1 := heap_setCell_same w b 0 _ _ (.pointer none) hbk
  have h2 := heap_setCell_same _ b 1 _ _ (.slice none 0 0) h1
  have HB : Hid (Bld b [] ((w.setCell ⟨b, 0, none⟩ (.pointer none)).setCell ⟨b, 1, none⟩ (.slice none 0 0))) := Lib.hid (.inl ⟨Nat.le_refl _, .slice none 0 0, h2, ⟨rfl, .inl ⟨rfl, rfl⟩⟩, by simp [Value.ownBlock]⟩)
  have HW : Hid (Below b w ((w.setCell ⟨b, 0, none⟩ (.pointer none)).setCell ⟨b, 1, none⟩ (.slice none 0 0))) := Lib.hid (((Below.refl b w).setCell (p := ⟨b, 0, none⟩) (Nat.le_refl _) _).setCell (p := ⟨b, 1, none⟩) (Nat.le_refl _) _)
  have HK : Hid (Kept b w ((w.setCell ⟨b, 0, none⟩ (.pointer none)).setCell ⟨b, 1, none⟩ (.slice none 0 0))) := Lib.hid (((Lib.OthersKept.refl _ _ w).setCell ⟨b, 0, none⟩ rfl _).setCell ⟨b, 1, none⟩ rfl _)
  clear h1 h2 hbk h
  go_enter Tryd.func44, Tryd.ntmps44
  go_wp2
  go_end0
  exact ⟨rfl, HB.out, HW.out, HK.out⟩
theorem ib_hit (c : UInt8) (h : c = 92 ∨ c = 44 ∨ c = 59) : 0 ≤ Lib.indexByte [92, 44, 59] c := by
  rcases h with rfl | rfl | rfl <;> decide
theorem ib_miss (c : UInt8) (h : ¬(c = 92 ∨ c = 44 ∨ c = 59)) : Lib.indexByte [92, 44, 59] c = -1 := by
  refine idx_miss c _ ?_
  simp
  exact ⟨fun e => h (.inl e), fun e => h (.inr (.inl e)), fun e => h (.inr (.inr e))⟩
/-- What Items answers. -/
def ItR (R : IRes) (w : World) (e : Ending) (w' : World) : Prop :=
  Below w.heap.size w w' ∧ match R with
    | .ok L => ∃ v, e = .returned (.tuple #[v, .nilIface]) ∧ StrL w' w.heap.size v L
    | .bad k => ∃ g, e = .returned (.tuple #[.slice none 0 0, .iface 84 (.pointer (some ⟨g, 0, none⟩))]) ∧ w.heap.size ≤ g ∧ g < w'.heap.size ∧ w'.cell? ⟨g, 0, none⟩ = some (.int .i64 5) ∧ w'.cell? ⟨g, 1, none⟩ = some (.int .i64 (k : Int))
/-- Items under way. -/
def ItSt (w : World) (R : IRes) (s : List UInt8) (v : Value) (n i : Nat) (acc : List (List UInt8)) (cur : List UInt8) (wr : World) : Prop :=
  acc.length = n ∧ Bld w.heap.size cur wr ∧ wr.ownsRow (w.heap.size + 1) 9 1 v n (strV acc) ∧ Below w.heap.size w wr ∧ itemsF (s.drop i) i acc cur = R
theorem ItSt.size {w : World} {R : IRes} {s : List UInt8} {v : Value} {n i : Nat} {acc : List (List UInt8)} {cur : List UInt8} {wr : World} (h : ItSt w R s v n i acc cur wr) : w.heap.size < wr.heap.size := h.2.1.lt
theorem ItSt.put {w : World} {R : IRes} {s : List UInt8} {v : Value} {n i j : Nat} {acc : List (List UInt8)} {cur cur' : List UInt8} {wr w' : World} (h : ItSt w R s v n i acc cur wr) (hB : Bld w.heap.size cur' w') (hb : Below w.heap.size wr w') (hk : Kept w.heap.size wr w')
    (he : itemsF (s.drop j) j acc cur' = itemsF (s.drop i) i acc cur) : ItSt w R s v n j acc cur' w' := by
  obtain ⟨h1, h2, h3, h4, h5⟩ := h
  have h6 : StrL wr (w.heap.size + 1) v acc := by unfold StrL; rw [h1]; exact h3
  have h7 := h6.others (by omega) hk
  unfold StrL at h7
  rw [h1] at h7
  exact ⟨h1, hB, h7, h4.trans hb, he.trans h5⟩
theorem itSt_reset {w : World} {R : IRes} {s : List UInt8} {v : Value} {n i : Nat} {acc : List (List UInt8)} {wr w' : World} (h1 : acc.length = n) (h3 : wr.ownsRow (w.heap.size + 1) 9 1 v n (strV acc)) (h4 : Below w.heap.size w wr) (h5 : itemsF (s.drop i) i acc [] = R)
    (hB : Bld w.heap.size [] w') (hb : Below w.heap.size wr w') (hk : Kept w.heap.size wr w') : ItSt w R s v n i acc [] w' := by
  have h6 : StrL wr (w.heap.size + 1) v acc := by unfold StrL; rw [h1]; exact h3
  have h7 := h6.others (by omega) hk
  unfold StrL at h7
  rw [h1] at h7
  exact ⟨h1, hB, h7, h4.trans hb, h5⟩
theorem ibk {c : UInt8} {x : Int} (hx : Lib.indexByte [92, 44, 59] c = x) (w : World) : Calls Tryd.prog 46 #[.string ⟨#[92, 44, 59]⟩, .int .u8 (c.toNat : Int)] w fun e w' => e = .returned (.int .i64 x) ∧ w = w' := by
  refine (Any.strings_IndexByte layIB ⟨#[92, 44, 59]⟩ (c.toNat : Int) w).mono ?_
  rintro e w' ⟨rfl, rfl⟩
  have hc : ((c.toNat : Int)).toNat.toUInt8 = c := by rw [Int.toNat_natCast]; exact UInt8.ofNat_toNat
  exact ⟨by rw [hc, ← hx], rfl⟩
theorem drop_at (s : ByteArray) (i : Nat) (h : i < s.size) : s.data.toList.drop i = s[i] :: s.data.toList.drop (i + 1) := List.drop_eq_getElem_cons (by rw [len_eq]; exact h)
theorem itR_bad {w wr : World} {k : Nat} (hb : Below w.heap.size w wr) : ItR (.bad k) w (.returned (.tuple #[.slice none 0 0, .iface 84 (.pointer (some ⟨wr.heap.size, 0, none⟩))])) (wr.alloc (.cells #[.int .i64 5, .int .i64 (k : Int)] 85)) :=
  ⟨hb.alloc hb.size _, wr.heap.size, rfl, hb.size, by simp, by simp, by simp⟩
set_option maxRecDepth 100000 in
set_option maxHeartbeats 8000000 in
theorem items_any (s : ByteArray) (w : World) (hs : s.size ≤ 4194304) :
    Calls Tryd.prog 29 #[.string s] w (ItR (itemsF s.data.toList 0 [] []) w) := by
  obtain ⟨i0, hi0, hz0, hz1, hz2⟩ := info_parts str_info
  obtain ⟨R, hR⟩ : ∃ R, itemsF s.data.toList 0 [] [] = R := ⟨_, rfl⟩
  rw [hR]
  have HR0 : Hid (itemsF (s.data.toList.drop 0) 0 [] [] = R) := Lib.hid hR
  clear hR
  go_enter Tryd.func29, Tryd.ntmps29
  go_wp2
  go_loopw [4, 6] (fun v c wr => ∃ (oa : Option Addr) (n cap i : Nat) (acc : List (List UInt8)) (cur : List UInt8), v = .slice oa n cap ∧ c = .int .i64 (i : Int) ∧ i ≤ s.size ∧ n ≤ i ∧ cur.length ≤ i ∧ Hid (ItSt w R s.data.toList (.slice oa n cap) n i acc cur wr)) (fun _ c _ => s.size - (intOf c).toNat)
  case atStart => exact ⟨none, 0, 0, 0, [], [], rfl, rfl, by omega, by omega, by simp, Lib.hid ⟨rfl, Bld.new w, World.ownsRow_nil _ _ _ _, Below.alloc (Below.refl _ _) (Nat.le_refl _) _, HR0.out⟩⟩
  case round =>
    obtain ⟨oa, n, cap, i, acc, cur, rfl, rfl, his, hn, hcl, HS⟩ := hrel
    obtain ⟨wA, rfl⟩ : ∃ wo : World, wo = wr := ⟨_, rfl⟩
    have HSZ := Lib.hid HS.out.size
    have HBL := Lib.hid HS.out.2.2.2.1
    by_cases hi : i < s.size
    · have HD := Lib.hid (drop_at s i hi)
      obtain ⟨cz, hcz⟩ : ∃ z, cur.length = z := ⟨_, rfl⟩
      rw [hcz] at hcl
      have HCZ := Lib.hid hcz
      clear hcz
      by_cases h44 : s[i] = 44
      · have b1 := byte_lit h44 44 rfl
        have HN : Hid (itemsF (s.data.toList.drop (i + 1)) (i + 1) (acc ++ [cur]) [] = R) := Lib.hid (by have h := HS.out.2.2.2.2; rw [HD.out, h44, it_comma] at h; exact h)
        clear h44
        go_wp2_with (first
          | (go_at_call 32; refine (strBk w.heap.size cur _ HS.out.2.1 (Nat.le_of_lt HSZ.out)).mono ?_; rintro e w1 ⟨rfl, hB, hb, hk⟩; have HS1 := Lib.hid (HS.out.put hB hb hk rfl); clear hB hb hk)
          | (at_builtin; refine wpList_append_own _ rfl (.tmp 22) (.tmp 24) 39 rfl (w.heap.size + 1) 9 i0 (.string ⟨#[]⟩) 1 16 Tryd.underlying39 hi0 hz0 hz1 hz2 rfl (by decide) _ n (strV acc) rfl (HS1.out.2.2.1.alloc _) _ 1 1 [.string ⟨cur.toArray⟩] rfl rfl (cells_at (by simp) _ _) (by simp [Value.oneCell']) (by unfold maxLen; omega) (by omega) (by have := HS1.out.size; simp; omega) ?_; intro v3 w3 hown hgrow _; obtain ⟨g3, c3, hv3, _, _⟩ := hown.form (by omega); subst hv3; have HB3 := Lib.hid ((HS1.out.2.1.alloc _).grown hgrow (row_kind (HS1.out.2.2.1.alloc _))); have HW3 := Lib.hid ((HS1.out.2.2.2.1.alloc HS1.out.2.2.2.1.size _).grown hgrow (by have := HS1.out.size; simp; omega) (fun k hk => by have := (HS1.out.2.2.1.lt k hk).1; omega)); have HO3 : Hid (w3.ownsRow (w.heap.size + 1) 9 1 (.slice (some ⟨g3, 0, none⟩) (n + 1) c3) (n + 1) (strV (acc ++ [cur]))) := Lib.hid (by rw [strV_snoc]; exact hown); clear hown hgrow)
          | (go_at_call 44; refine (reset_any w.heap.size cur _ HB3.out).mono ?_; rintro e w4 ⟨rfl, hB, hb, hk⟩; have HS4 : Hid (ItSt w R s.data.toList (.slice (some ⟨g3, 0, none⟩) (n + 1) c3) (n + 1) (i + 1) (acc ++ [cur]) [] w4) := Lib.hid (itSt_reset (by rw [List.length_append, HS.out.1]; rfl) HO3.out HW3.out HN.out hB hb hk); clear hB hb hk))
        go_roundw
        case rel => exact ⟨some ⟨g3, 0, none⟩, n + 1, c3, i + 1, acc ++ [cur], [], rfl, by go_num, by omega, by omega, by simp, HS4⟩
        case measure => simp [intOf]; omega
      · have b1 := byte_not h44 44 rfl
        by_cases h59 : s[i] = 59
        · have b2 := byte_lit h59 59 rfl
          have hE : IRes.bad i = R := by have h := HS.out.2.2.2.2; rw [HD.out, h59, it_semi] at h; exact h
          subst hE
          clear h44 h59
          go_wp2
          go_ret2
          exact itR_bad HBL.out
        · have b2 := byte_not h59 59 rfl
          by_cases h92 : s[i] = 92
          · have b3 := byte_lit h92 92 rfl
            have q1 : (0 : Int) ≤ (i : Int) + 1 := by omega
            have q2 : ((i : Int) + 1).toNat = i + 1 := by omega
            by_cases hi2 : i + 1 < s.size
            · have HD2 := Lib.hid (drop_at s (i + 1) hi2)
              have q3 : (i : Int) + 1 < (s.size : Int) := by omega
              by_cases hnl : s[i + 1] = 110 ∨ s[i + 1] = 78
              · have HN : Hid (itemsF (s.data.toList.drop (i + 2)) (i + 2) acc (cur ++ [10]) = itemsF (s.data.toList.drop i) i acc cur) := Lib.hid (by rw [HD.out, h92, HD2.out, it_nl _ _ _ _ _ hnl])
                clear h44 h59 h92
                by_cases h110 : s[i + 1] = 110
                · have b4 := byte_lit h110 110 rfl
                  clear h110 hnl
                  go_wp2_with (go_at_call 45; refine (writeBk w.heap.size cur 10 _ rfl _ HS.out.2.1 (by have := HCZ.out; omega) (Nat.le_of_lt HSZ.out)).mono ?_; rintro e w1 ⟨rfl, hB, hb, hk⟩; have HS1 := Lib.hid (HS.out.put hB hb hk HN.out); clear hB hb hk)
                  go_roundw
                  case rel => exact ⟨oa, n, cap, i + 2, acc, _, rfl, by go_num, by omega, by omega, by have := HCZ.out; simp; omega, HS1⟩
                  case measure => simp [intOf]; omega
                · have h78 : s[i + 1] = 78 := hnl.resolve_left h110
                  have b4 := byte_not h110 110 rfl
                  have b5 := byte_lit h78 78 rfl
                  clear h110 h78 hnl
                  go_wp2_with (go_at_call 45; refine (writeBk w.heap.size cur 10 _ rfl _ HS.out.2.1 (by have := HCZ.out; omega) (Nat.le_of_lt HSZ.out)).mono ?_; rintro e w1 ⟨rfl, hB, hb, hk⟩; have HS1 := Lib.hid (HS.out.put hB hb hk HN.out); clear hB hb hk)
                  go_roundw
                  case rel => exact ⟨oa, n, cap, i + 2, acc, _, rfl, by go_num, by omega, by omega, by have := HCZ.out; simp; omega, HS1⟩
                  case measure => simp [intOf]; omega
              · have b4 := byte_not (fun e => hnl (.inl e)) 110 rfl
                have b5 := byte_not (fun e => hnl (.inr e)) 78 rfl
                by_cases hes : s[i + 1] = 92 ∨ s[i + 1] = 44 ∨ s[i + 1] = 59
                · have HN : Hid (itemsF (s.data.toList.drop (i + 2)) (i + 2) acc (cur ++ [s[i + 1]]) = itemsF (s.data.toList.drop i) i acc cur) := Lib.hid (by rw [HD.out, h92, HD2.out, it_esc _ _ _ _ _ hnl hes])
                  have hib := ib_hit _ hes
                  obtain ⟨ix, hix⟩ : ∃ x, Lib.indexByte [92, 44, 59] s[i + 1] = x := ⟨_, rfl⟩
                  rw [hix] at hib
                  have HIX := Lib.hid hix
                  clear h44 h59 h92 hnl hes hix
                  go_wp2_with (first
                    | (go_at_call 46; refine (ibk HIX.out _).mono ?_; rintro e w' ⟨rfl, rfl⟩)
                    | (go_at_call 45; refine (writeBk w.heap.size cur s[i + 1] _ rfl _ HS.out.2.1 (by have := HCZ.out; omega) (Nat.le_of_lt HSZ.out)).mono ?_; rintro e w1 ⟨rfl, hB, hb, hk⟩; have HS1 := Lib.hid (HS.out.put hB hb hk HN.out); clear hB hb hk))
                  go_roundw
                  case rel => exact ⟨oa, n, cap, i + 2, acc, _, rfl, by go_num, by omega, by omega, by have := HCZ.out; simp; omega, HS1⟩
                  case measure => simp [intOf]; omega
                · have hE : IRes.bad i = R := by have h := HS.out.2.2.2.2; rw [HD.out, h92, HD2.out, it_bad _ _ _ _ _ hnl hes] at h; exact h
                  subst hE
                  have HIX := Lib.hid (ib_miss _ hes)
                  clear h44 h59 h92 hnl hes
                  go_wp2_with (go_at_call 46; refine (ibk HIX.out _).mono ?_; rintro e w' ⟨rfl, rfl⟩)
                  go_ret2
                  exact itR_bad HBL.out
            · have hE : IRes.bad i = R := by have h := HS.out.2.2.2.2; rw [HD.out, h92, List.drop_eq_nil_of_le (by rw [len_eq]; omega), it_end] at h; exact h
              subst hE
              have q3 : ¬ (i : Int) + 1 < (s.size : Int) := by omega
              clear h44 h59 h92
              go_wp2
              go_ret2
              exact itR_bad HBL.out
          · have b3 := byte_not h92 92 rfl
            have HN : Hid (itemsF (s.data.toList.drop (i + 1)) (i + 1) acc (cur ++ [s[i]]) = itemsF (s.data.toList.drop i) i acc cur) := Lib.hid (by rw [HD.out, it_plain _ _ _ _ _ h59 h44 h92])
            clear h44 h59 h92
            go_wp2_with (go_at_call 45; refine (writeBk w.heap.size cur s[i] _ rfl _ HS.out.2.1 (by have := HCZ.out; omega) (Nat.le_of_lt HSZ.out)).mono ?_; rintro e w1 ⟨rfl, hB, hb, hk⟩; have HS1 := Lib.hid (HS.out.put hB hb hk HN.out); clear hB hb hk)
            go_roundw
            case rel => exact ⟨oa, n, cap, i + 1, acc, _, rfl, by go_num, by omega, by omega, by have := HCZ.out; simp; omega, HS1⟩
            case measure => simp [intOf]; omega
    · have hE : IRes.ok (acc ++ [cur]) = R := by have h := HS.out.2.2.2.2; rw [List.drop_eq_nil_of_le (by rw [len_eq]; omega), it_nil] at h; exact h
      subst hE
      go_wp2_with (first
        | (go_at_call 32; refine (strBk w.heap.size cur _ HS.out.2.1 (Nat.le_of_lt HSZ.out)).mono ?_; rintro e w1 ⟨rfl, hB, hb, hk⟩; have HS1 := Lib.hid (HS.out.put hB hb hk rfl); clear hB hb hk)
        | (at_builtin; refine wpList_append_own _ rfl (.tmp 76) (.tmp 78) 39 rfl (w.heap.size + 1) 9 i0 (.string ⟨#[]⟩) 1 16 Tryd.underlying39 hi0 hz0 hz1 hz2 rfl (by decide) _ n (strV acc) rfl (HS1.out.2.2.1.alloc _) _ 1 1 [.string ⟨cur.toArray⟩] rfl rfl (cells_at (by simp) _ _) (by simp [Value.oneCell']) (by unfold maxLen; omega) (by omega) (by have := HS1.out.size; simp; omega) ?_; intro v3 w3 hown hgrow _; have HW3 := Lib.hid ((HS1.out.2.2.2.1.alloc HS1.out.2.2.2.1.size _).grown hgrow (by have := HS1.out.size; simp; omega) (fun k hk => by have := (HS1.out.2.2.1.lt k hk).1; omega)); have HO3 : Hid (StrL w3 w.heap.size v3 (acc ++ [cur])) := Lib.hid (StrL.low (by unfold StrL; rw [strV_snoc, List.length_append, HS.out.1]; exact hown) (Nat.le_succ _)); clear hown hgrow))
      go_ret2
      exact ⟨HW3.out, _, rfl, HO3.out⟩
end Go.Proofs.YtidgahnamdhflaaDoor
