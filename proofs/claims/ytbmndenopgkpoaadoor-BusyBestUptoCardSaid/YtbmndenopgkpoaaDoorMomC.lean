/- Spans sorted: the library's SortFunc. -/
import Derived.Test.YtbmndenopgkpoaaDoorMomB
import Derived.Test.YtbmndenopgkpoaaDoorMomLay
import Derived.Shelf.SlSortCmp.NoneTotal
import Derived.Deep.AppendLies
namespace Go.Proofs.YtbmndenopgkpoaaDoor
open Go.RowKit Go.Shelf Go.Lib Go.Sort
theorem cf_ltOf (x y : Iv) : ltOf cfIv x y = decide (x.1 < y.1) := by
  unfold ltOf
  rw [decide_eq_decide]; exact cfIv_lt x y
theorem swoIv : SWO (ltOf cfIv) where
  irrefl x := by rw [cf_ltOf]; simp
  trans x y z h1 h2 := by rw [cf_ltOf] at *; simp at *; omega
  ntrans x y z h1 h2 := by rw [cf_ltOf] at *; simp at *; omega
theorem of1_lays (blk off size : Nat) (w : World) : CmpLays Tryd.prog 29 #[] encIv 2 cfIv blk off size w := by
  intro m os dk _ x y
  refine (of1_any x y _).mono ?_
  rintro e w' ⟨he, rfl⟩
  exact ⟨he, 0, _, by rw [alloc_eq_grow, alloc_eq_grow, grow_grow]; rfl⟩
theorem sortBelow {w : World} {b blk off n : Nat} {d : Array Iv} {os : Array Obj} (hb : b ≤ blk) (hl : blk < w.heap.size) : RowKit.Below b w (sortWorldK encIv 2 w blk off n d os) := by
  refine ⟨rfl, rfl, rfl, ?_, fun k hk => ?_⟩
  · exact size_sortWorldK_c (enc := encIv) (k := 2) (w := w) (blk := blk) (off := off) n d os
  · show ((w.heap.modify blk _) ++ os)[k]? = w.heap[k]?
    rw [Array.getElem?_append_left (by rw [Array.size_modify]; omega), Array.getElem?_modify, if_neg (by omega)]
theorem perm_mem {d d' : Array Iv} (h : PermIn 0 d.size d d') (p : Iv) : p ∈ d'.toList ↔ p ∈ d.toList := by
  have h1 := h.2.2
  have e : d'.extract 0 d.size = d' := by rw [← h.1]; exact Array.extract_size
  rw [e, Array.extract_size] at h1
  exact h1.mem_iff
theorem sorted_pw {d : Array Iv} (h : SortedIn (ltOf cfIv) 0 d.size d) : d.toList.Pairwise fun p q => p.1 ≤ q.1 := by
  rw [List.pairwise_iff_getElem]
  intro i j hi hj hij
  have h1 := h i j (Nat.zero_le _) hij (by simpa using hj)
  rw [cf_ltOf] at h1
  have e1 : d[i]! = d.toList[i] := by rw [getElem!_pos d i (by simpa using hi)]; simp
  have e2 : d[j]! = d.toList[j] := by rw [getElem!_pos d j (by simpa using hj)]; simp
  rw [e1, e2] at h1
  have := of_decide_eq_false h1
  omega
/-- What sorting leaves. -/
structure SrtI (l S : List Iv) : Prop where
  len : S.length = l.length
  mem : ∀ p, p ∈ S ↔ p ∈ l
  pw : S.Pairwise fun p q => p.1 ≤ q.1
theorem sortSpans_any (l : List Iv) (b g m cap : Nat) (w : World) (hm : l.length = m) (hb : b ≤ g) (hg : g < w.heap.size) (hl : m < 4611686018427387904) (hc : ∀ k, k < m → (w.cell? ⟨g, k * 2, none⟩ = some (.int .i64 (l.getD k iv0).1) ∧ w.frozen? ⟨g, k * 2, none⟩ = false) ∧ w.cell? ⟨g, k * 2 + 1, none⟩ = some (.int .i64 (l.getD k iv0).2) ∧ w.frozen? ⟨g, k * 2 + 1, none⟩ = false) :
    Calls Tryd.prog 28 #[.slice (some ⟨g, 0, none⟩) m cap, .func (Fn.func 29) #[] #[]] w fun e w' => e = .returned (.tuple #[]) ∧ (∃ S, SrtI l S ∧ IvR w' (some ⟨g, 0, none⟩) S) ∧ RowKit.Below b w w' := by
  have eg : ∀ args w, (callFunc 29 args).run Tryd.prog w = .ok (.enter 29 args) w := enters_of Tryd.func29 (by kernel_rfl) rfl
  have hsz : l.toArray.size = m := by simpa using hm
  have hH : HoldsK encIv 2 w g 0 l.toArray := by
    intro j hj
    rw [size_flatK, hsz] at hj
    rw [get_flatK _ _ _ _ (by rw [hsz]; exact hj)]
    obtain ⟨⟨c1, c2⟩, c3, c4⟩ := hc (j / 2) (by omega)
    have e : l.toArray[j / 2]! = l.getD (j / 2) iv0 := by
      rw [getElem!_pos l.toArray (j / 2) (by rw [hsz]; omega)]
      simp [List.getD, show j / 2 < l.length by omega]
    rw [e, Nat.zero_add]
    rcases Nat.mod_two_eq_zero_or_one j with h | h
    · rw [h]
      have hj2 : j / 2 * 2 = j := by omega
      rw [hj2] at c1 c2
      exact ⟨c1, c2⟩
    · rw [h]
      have hj2 : j / 2 * 2 + 1 = j := by omega
      rw [hj2] at c3 c4
      exact ⟨c3, c4⟩
  have hcon := AnyQ.slices_SortFunc sortSpan 2 Tryd.isAgg55 Tryd.sizeOf55 encIv (fun _ => rfl) (fun x v hv => by simp [encIv] at hv; rcases hv with rfl | rfl <;> rfl) cfIv swoIv 29 #[] g 0 cap l.toArray w eg (of1_lays g 0 l.toArray.size w) hH hg (by rw [hsz]; exact hl)
  rw [hsz] at hcon
  change Calls Tryd.prog 28 _ _ _ at hcon
  refine hcon.mono ?_
  rintro e w' ⟨he, d', n, os, hp, hs, rfl⟩
  refine ⟨he, ⟨d'.toList, ⟨?_, ?_, ?_⟩, ?_⟩, sortBelow hb hg⟩
  · rw [← hsz] at hp; have := hp.1; rw [hsz] at this; rw [Array.length_toList, this, hm]
  · intro p; rw [← hsz] at hp; rw [perm_mem hp]
  · exact sorted_pw (by rw [hp.1, hsz]; exact hs)
  · have hsd : d'.size = m := by rw [← hsz] at hp; have := hp.1; rw [hsz] at this; exact this
    have hHd := holdsK_sortWorldK encIv 2 w g 0 n l.toArray d' os hg hH (by rw [hsd, hsz])
    refine ⟨fun _ => ⟨_, rfl⟩, fun a ha => ?_⟩
    injection ha with ha
    subst ha
    refine ⟨fun _ => lt_sortWorldK encIv 2 w g 0 n d' os hg, fun k hk => ?_⟩
    have hk2 : k < d'.size := by simpa using hk
    have e : d'[k]! = d'.toList.getD k iv0 := by
      rw [getElem!_pos d' k hk2]
      simp [List.getD, hk2]
    have h0 := (hHd.cell (i := k) (c := 0) hk2 (by omega)).1
    have h1 := (hHd.cell (i := k) (c := 1) hk2 (by omega)).1
    rw [e] at h0 h1
    rw [Addr.add_lit, Addr.add_lit]
    exact ⟨by simpa [encIv] using h0, by simpa [encIv] using h1⟩
theorem sortOwn_any (l : List Iv) (b m cap : Nat) (ob : Option Addr) (w : World) (hm : l.length = m) (hl : m < 4611686018427387904) (h : w.ownsRow b 55 2 (.slice ob m cap) m (ivV l)) :
    Calls Tryd.prog 28 #[.slice ob m cap, .func (Fn.func 29) #[] #[]] w fun e w' => e = .returned (.tuple #[]) ∧ (∃ S, SrtI l S ∧ IvR w' ob S) ∧ RowKit.Below b w w' := by
  by_cases h0 : 0 < m
  · obtain ⟨g, cap', hv, hb, _⟩ := h.form h0
    simp only [Value.slice.injEq, true_and] at hv
    obtain ⟨rfl, rfl⟩ := hv
    refine sortSpans_any l b g m cap w hm hb (h.lt g rfl).2 hl fun k hk => ?_
    obtain ⟨e1, e2⟩ := ivV_at l k (by omega)
    exact ⟨⟨(h.cellAt (k * 2) (by omega)).trans e1, h.frozenAt _⟩, (h.cellAt (k * 2 + 1) (by omega)).trans e2, h.frozenAt _⟩
  · obtain rfl : m = 0 := by omega
    obtain rfl : l = [] := List.length_eq_zero_iff.1 hm
    have hcon := AnyF.slices_SortFunc_none sortSpan ob cap (.func (Fn.func 29) #[] #[]) w
    change Calls Tryd.prog 28 _ _ _ at hcon
    refine hcon.mono ?_
    rintro e w' ⟨he, rfl⟩
    exact ⟨he, ⟨[], ⟨rfl, fun _ => Iff.rfl, List.Pairwise.nil⟩, fun h => absurd h (Nat.lt_irrefl 0), fun a _ => ⟨fun h => absurd h (Nat.lt_irrefl 0), fun k hk => absurd hk (Nat.not_lt_zero k)⟩⟩, RowKit.Below.refl _ _⟩
end Go.Proofs.YtbmndenopgkpoaaDoor
