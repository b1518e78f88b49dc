/- The document's CronText. -/
import Derived.Test.YtdnbnpknmdcljaaDoorCrnM
namespace Go.Proofs.YtdnbnpknmdcljaaDoor
open Go.RowKit Go.Shelf
/-- Two texts in their boxes. -/
def TwoS (w : World) (D K : Nat) (d k : List UInt8) : Prop := D < w.heap.size ∧ K < w.heap.size ∧ w.cell? ⟨D, 0, none⟩ = some (.string ⟨d.toArray⟩) ∧ w.cell? ⟨K, 0, none⟩ = some (.string ⟨k.toArray⟩) ∧ w.frozen? ⟨D, 0, none⟩ = false ∧ w.frozen? ⟨K, 0, none⟩ = false
theorem TwoS.call {w w' : World} {D K : Nat} {d k : List UInt8} (h : TwoS w D K d k) (hb : Below w.heap.size w w') : TwoS w' D K d k := by
  obtain ⟨h1, h2, h3, h4, h5, h6⟩ := h
  exact ⟨Nat.lt_of_lt_of_le h1 hb.size, Nat.lt_of_lt_of_le h2 hb.size, (hb.cell (p := ⟨D, 0, none⟩) h1).trans h3, (hb.cell (p := ⟨K, 0, none⟩) h2).trans h4, (hb.frozen (p := ⟨D, 0, none⟩) h1).trans h5, (hb.frozen (p := ⟨K, 0, none⟩) h2).trans h6⟩
theorem TwoS.setD {w : World} {D K : Nat} {d k : List UInt8} (h : TwoS w D K d k) (hne : D ≠ K) (x : List UInt8) : TwoS (w.setCell ⟨D, 0, none⟩ (.string ⟨x.toArray⟩)) D K x k := by
  obtain ⟨h1, h2, h3, h4, h5, h6⟩ := h
  exact ⟨by simpa using h1, by simpa using h2, World.cell?_setCell_same _ _ _ h3, (World.cell?_setCell_far _ _ _ _ hne).trans h4, by simpa using h5, by simpa using h6⟩
theorem TwoS.setK {w : World} {D K : Nat} {d k : List UInt8} (h : TwoS w D K d k) (hne : D ≠ K) (x : List UInt8) : TwoS (w.setCell ⟨K, 0, none⟩ (.string ⟨x.toArray⟩)) D K d x := by
  obtain ⟨h1, h2, h3, h4, h5, h6⟩ := h
  exact ⟨by simpa using h1, by simpa using h2, (World.cell?_setCell_far _ _ _ _ (Ne.symm hne)).trans h3, World.cell?_setCell_same _ _ _ h4, by simpa using h5, by simpa using h6⟩
theorem addD_any (B D K : Nat) (d k : List UInt8) (x : ByteArray) (w : World) (h : TwoS w D K d k) (hne : D ≠ K) (hB : B ≤ D) (hd : d.length ≤ 100000) (hx : x.size ≤ 100000) :
    Calls Tryd.prog 12 #[.pointer (some ⟨D, 0, none⟩), .string x] w fun e w' => e = .returned (.tuple #[]) ∧ TwoS w' D K (addJ d x.data.toList) k ∧ Below B w w' ∧ ∀ b o, b ≠ D → w'.cell? ⟨b, o, none⟩ = w.cell? ⟨b, o, none⟩ :=
  (add_any D ⟨d.toArray⟩ x w h.2.2.1 h.2.2.2.2.1 (by rw [Lib.size_eq]; simpa using Nat.le_trans hd (by omega)) (by omega)).mono fun e w' ⟨he, hw⟩ => by
    subst hw
    exact ⟨he, h.setD hne _, (Below.refl _ _).setCell hB _, fun b o hb => World.cell?_setCell_far _ _ _ _ (Ne.symm hb)⟩
theorem addK_any (B D K : Nat) (d k : List UInt8) (x : ByteArray) (w : World) (h : TwoS w D K d k) (hne : D ≠ K) (hB : B ≤ K) (hk : k.length ≤ 100000) (hx : x.size ≤ 100000) :
    Calls Tryd.prog 12 #[.pointer (some ⟨K, 0, none⟩), .string x] w fun e w' => e = .returned (.tuple #[]) ∧ TwoS w' D K d (addJ k x.data.toList) ∧ Below B w w' ∧ ∀ b o, b ≠ K → w'.cell? ⟨b, o, none⟩ = w.cell? ⟨b, o, none⟩ :=
  (add_any K ⟨k.toArray⟩ x w h.2.2.2.1 h.2.2.2.2.2 (by rw [Lib.size_eq]; simpa using Nat.le_trans hk (by omega)) (by omega)).mono fun e w' ⟨he, hw⟩ => by
    subst hw
    exact ⟨he, h.setK hne _, (Below.refl _ _).setCell hB _, fun b o hb => World.cell?_setCell_far _ _ _ _ (Ne.symm hb)⟩
/-- Words that are short, few, and not empty. -/
def WordsOK (l : List (List UInt8)) : Prop := l.length ≤ 300 ∧ ∀ x, x ∈ l → x.length ≤ 5 ∧ x ≠ []
theorem WordsOK.join {l : List (List UInt8)} (h : WordsOK l) : (Lib.join l [44]).length ≤ 100000 := Nat.le_trans (join_short l h.1 fun x hx => (h.2 x hx).1) (by omega)
theorem WordsOK.left {l m : List (List UInt8)} (h : WordsOK (l ++ m)) : WordsOK l := ⟨by have := h.1; rw [List.length_append] at this; omega, fun x hx => h.2 x (List.mem_append_left _ hx)⟩
theorem WordsOK.add {l : List (List UInt8)} {x : List UInt8} (h : WordsOK (l ++ [x])) : addJ (Lib.join l [44]) x = Lib.join (l ++ [x]) [44] := addJ_join l x fun y hy => (h.2 y (List.mem_append_left _ hy)).2
theorem WordsOK.add' {m l : List (List UInt8)} {x : List UInt8} (h : WordsOK m) (e : m = l ++ [x]) : addJ (Lib.join l [44]) x = Lib.join (l ++ [x]) [44] ∧ True := ⟨(e ▸ h).add, trivial⟩
theorem words_take (l : List Int) (s : List UInt8) (k : Nat) : ∃ r, wordsL l s = wordsL (l.take k) s ++ r := ⟨wordsL (l.drop k) s, by unfold wordsL; rw [← List.map_append, List.take_append_drop]⟩
theorem nth_take (l : List (Int × Int)) (k : Nat) : ∃ r, nthL l = nthL (l.take k) ++ r := ⟨nthL (l.drop k), by unfold nthL; rw [← List.map_append, List.take_append_drop]⟩
theorem ok_take {p : List (List UInt8)} {l : List Int} {s : List UInt8} (h : WordsOK (p ++ wordsL l s)) (k : Nat) : WordsOK (p ++ wordsL (l.take k) s) := by
  obtain ⟨r, hr⟩ := words_take l s k
  rw [hr, ← List.append_assoc] at h
  exact h.left
theorem ok_takeN {p : List (List UInt8)} {l : List (Int × Int)} (h : WordsOK (p ++ nthL l)) (k : Nat) : WordsOK (p ++ nthL (l.take k)) := by
  obtain ⟨r, hr⟩ := nth_take l k
  rw [hr, ← List.append_assoc] at h
  exact h.left
theorem month_ok (c : Cron) (h : CronG c) : WordsOK ([] ++ wordsL c.da [] ++ wordsL c.ne [87] ++ (if c.la then [[76]] else [])) := by
  have h1 := short_of h.da (by omega)
  have h2 := short_of h.ne (by omega)
  refine ⟨by cases c.la <;> simp [words_len] <;> omega, fun x hx => ?_⟩
  rcases List.mem_append.1 hx with hx | hx
  · rcases List.mem_append.1 hx with hx | hx
    · have := words_mem c.da [] (small_of h.da (by omega) (by omega)) x hx
      exact ⟨by simp at this; omega, words_ne _ _ x hx⟩
    · have := words_mem c.ne [87] (small_of h.ne (by omega) (by omega)) x hx
      exact ⟨by simp at this; omega, words_ne _ _ x hx⟩
  · split at hx
    · obtain rfl := List.mem_singleton.1 hx
      simp
    · simp at hx
theorem week_ok (c : Cron) (h : CronG c) : WordsOK ([] ++ wordsL c.wd [] ++ wordsL c.lo [76] ++ nthL c.nt) := by
  have h1 := short_of h.wd (by omega)
  have h2 := short_of h.lo (by omega)
  have h3 := nth_len h.nt
  refine ⟨by simp [words_len, nthL]; omega, fun x hx => ?_⟩
  rcases List.mem_append.1 hx with hx | hx
  · rcases List.mem_append.1 hx with hx | hx
    · have := words_mem c.wd [] (small_of h.wd (by omega) (by omega)) x hx
      exact ⟨by simp at this; omega, words_ne _ _ x hx⟩
    · have := words_mem c.lo [76] (small_of h.lo (by omega) (by omega)) x hx
      exact ⟨by simp at this; omega, words_ne _ _ x hx⟩
  · exact ⟨nth_words c.nt h.nt x hx, nth_ne _ x hx⟩
set_option maxRecDepth 100000 in
set_option maxHeartbeats 16000000 in
theorem rtext_good (c : Cron) (v0 v1 v2 v4 v6 v8 v9 v10 : Value) (w : World) (h : CronR w c v0 v1 v2 v4 v6 v8 v9 v10) (hz : CronZ c) (hok : c.ok = true) :
    Calls Tryd.prog 5 #[cronV c v0 v1 v2 v4 v6 v8 v9 v10] w fun e w' => e = .returned (.tuple #[.string ⟨(textL c).toArray⟩, .int .i64 0]) ∧ Below w.heap.size w w' := by
  have HR := Lib.hid h
  have CK : Hid (∀ w0, Below w.heap.size w w0 → Calls Tryd.prog 7 #[cronV c v0 v1 v2 v4 v6 v8 v9 v10] w0 fun e w' => e = .returned (.int .i64 0) ∧ Below w0.heap.size w0 w') := Lib.hid fun w0 hb => by
    have k := rcheck_any c _ _ _ _ _ _ _ _ w0 (h.call hb) hz
    rw [hok] at k
    exact k
  have hg := ok_good hok
  have HMO := Lib.hid (month_ok c hg)
  have HKO := Lib.hid (week_ok c hg)
  obtain ⟨W0, hW0⟩ : ∃ x, wholeL c.mi 60 = x := ⟨_, rfl⟩
  have CW0 : Hid (∀ w0, Below w.heap.size w w0 → Calls Tryd.prog 10 #[v0, .int .i64 60] w0 fun e w' => e = .returned (.string ⟨W0.toArray⟩) ∧ w' = w0) := Lib.hid fun w0 hb => hW0 ▸ all_any v0 c.mi 60 w0 (h.call hb).mi (Nat.le_trans (short_of hg.mi (by omega)) (by omega)) (by decide) (small_of hg.mi (by omega) (by omega))
  have hw0 : W0.length ≤ 2000 := by rw [← hW0]; exact whole_short _ _ (short_of hg.mi (by omega)) (small_of hg.mi (by omega) (by omega))
  obtain ⟨W1, hW1⟩ : ∃ x, wholeL c.ho 24 = x := ⟨_, rfl⟩
  have CW1 : Hid (∀ w0, Below w.heap.size w w0 → Calls Tryd.prog 10 #[v1, .int .i64 24] w0 fun e w' => e = .returned (.string ⟨W1.toArray⟩) ∧ w' = w0) := Lib.hid fun w0 hb => hW1 ▸ all_any v1 c.ho 24 w0 (h.call hb).ho (Nat.le_trans (short_of hg.ho (by omega)) (by omega)) (by decide) (small_of hg.ho (by omega) (by omega))
  have hw1 : W1.length ≤ 2000 := by rw [← hW1]; exact whole_short _ _ (short_of hg.ho (by omega)) (small_of hg.ho (by omega) (by omega))
  obtain ⟨W2, hW2⟩ : ∃ x, wholeL c.mo 12 = x := ⟨_, rfl⟩
  have CW2 : Hid (∀ w0, Below w.heap.size w w0 → Calls Tryd.prog 10 #[v2, .int .i64 12] w0 fun e w' => e = .returned (.string ⟨W2.toArray⟩) ∧ w' = w0) := Lib.hid fun w0 hb => hW2 ▸ all_any v2 c.mo 12 w0 (h.call hb).mo (Nat.le_trans (short_of hg.mo (by omega)) (by omega)) (by decide) (small_of hg.mo (by omega) (by omega))
  have hw2 : W2.length ≤ 2000 := by rw [← hW2]; exact whole_short _ _ (short_of hg.mo (by omega)) (small_of hg.mo (by omega) (by omega))
  obtain ⟨JM, hJM⟩ : ∃ x, Lib.join (monthL c) [44] = x := ⟨_, rfl⟩
  obtain ⟨JK, hJK⟩ : ∃ x, Lib.join (weekL c) [44] = x := ⟨_, rfl⟩
  have hjm : JM.length ≤ 2000 := hJM ▸ join_short _ (month_len c hg) (month_words c hg)
  have hjk : JK.length ≤ 2000 := hJK ▸ join_short _ (week_len c hg) (week_words c hg)
  obtain ⟨TX, hTX⟩ : ∃ x : ByteArray, (⟨(textL c).toArray⟩ : ByteArray) = x := ⟨_, rfl⟩
  have HTJ : Hid (TX = ⟨W0.toArray⟩ ++ ⟨#[32]⟩ ++ ⟨W1.toArray⟩ ++ ⟨#[32]⟩ ++ ⟨JM.toArray⟩ ++ ⟨#[32]⟩ ++ ⟨W2.toArray⟩ ++ ⟨#[32]⟩ ++ ⟨JK.toArray⟩) := Lib.hid (by
    rw [← hTX]
    refine str_eq ?_
    simp only [app_eq]
    unfold textL
    rw [hW0, hW1, hW2, hJM, hJK]
    simp [Lib.join, List.intercalate])
  have HML : Hid (JM = if c.any then [42] else Lib.join ([] ++ wordsL c.da [] ++ wordsL c.ne [87] ++ (if c.la then [[76]] else [])) [44]) := Lib.hid (by
    rw [← hJM]
    unfold monthL
    split
    · rw [join_one]
    · simp)
  have HKL : Hid (JK = if c.aw then [42] else Lib.join ([] ++ wordsL c.wd [] ++ wordsL c.lo [76] ++ nthL c.nt) [44]) := Lib.hid (by
    rw [← hJK]
    unfold weekL
    split
    · rw [join_one]
    · simp)
  have HRda := Lib.hid (small_of hg.da (by omega) (by omega))
  have HRne := Lib.hid (small_of hg.ne (by omega) (by omega))
  have HRwd := Lib.hid (small_of hg.wd (by omega) (by omega))
  have HRlo := Lib.hid (small_of hg.lo (by omega) (by omega))
  have HNT := Lib.hid hg.nt
  have lda := short_of hg.da (by omega)
  have lne := short_of hg.ne (by omega)
  have lwd := short_of hg.wd (by omega)
  have llo := short_of hg.lo (by omega)
  have lnt := nth_len hg.nt
  rw [hTX]
  have HPda := Lib.hid h.da
  have HPne := Lib.hid h.ne
  have HPwd := Lib.hid h.wd
  have HPlo := Lib.hid h.lo
  have HPnt := Lib.hid h.nt
  clear hTX hJM hJK hW0 hW1 hW2 h hz hok hg
  obtain ⟨o0, p0, hv0, -, -⟩ := id HR.out.mi
  obtain ⟨n0, hn0⟩ : ∃ n, c.mi.length = n := ⟨_, rfl⟩
  rw [hn0] at hv0
  subst hv0
  obtain ⟨o1, p1, hv1, -, -⟩ := id HR.out.ho
  obtain ⟨n1, hn1⟩ : ∃ n, c.ho.length = n := ⟨_, rfl⟩
  rw [hn1] at hv1
  subst hv1
  obtain ⟨o2, p2, hv2, -, -⟩ := id HR.out.mo
  obtain ⟨n2, hn2⟩ : ∃ n, c.mo.length = n := ⟨_, rfl⟩
  rw [hn2] at hv2
  subst hv2
  obtain ⟨o4, p4, hv4, -, -⟩ := id HR.out.da
  obtain ⟨n4, hn4⟩ : ∃ n, c.da.length = n := ⟨_, rfl⟩
  rw [hn4] at hv4
  subst hv4
  obtain ⟨o6, p6, hv6, -, -⟩ := id HR.out.ne
  obtain ⟨n6, hn6⟩ : ∃ n, c.ne.length = n := ⟨_, rfl⟩
  rw [hn6] at hv6
  subst hv6
  obtain ⟨o8, p8, hv8, -, -⟩ := id HR.out.wd
  obtain ⟨n8, hn8⟩ : ∃ n, c.wd.length = n := ⟨_, rfl⟩
  rw [hn8] at hv8
  subst hv8
  obtain ⟨o9, p9, hv9, -, -⟩ := id HR.out.lo
  obtain ⟨n9, hn9⟩ : ∃ n, c.lo.length = n := ⟨_, rfl⟩
  rw [hn9] at hv9
  subst hv9
  obtain ⟨o10, p10, hv10, -, -⟩ := id HR.out.nt
  obtain ⟨n10, hn10⟩ : ∃ n, c.nt.length = n := ⟨_, rfl⟩
  rw [hn10] at hv10
  subst hv10
  clear HR
  obtain ⟨A, hA⟩ : ∃ x, c.any = x := ⟨_, rfl⟩
  obtain ⟨La, hLa⟩ : ∃ x, c.la = x := ⟨_, rfl⟩
  obtain ⟨Aw, hAw⟩ : ∃ x, c.aw = x := ⟨_, rfl⟩
  rw [hA] at HML
  rw [hLa] at HML HMO
  rw [hAw] at HKL
  unfold cronV at CK ⊢
  rw [hA, hLa, hAw] at CK ⊢
  obtain ⟨da, hda⟩ : ∃ x, c.da = x := ⟨_, rfl⟩
  obtain ⟨ne, hne⟩ : ∃ x, c.ne = x := ⟨_, rfl⟩
  obtain ⟨wd, hwd⟩ : ∃ x, c.wd = x := ⟨_, rfl⟩
  obtain ⟨lo, hlo⟩ : ∃ x, c.lo = x := ⟨_, rfl⟩
  obtain ⟨nt, hnt⟩ : ∃ x, c.nt = x := ⟨_, rfl⟩
  rw [hda] at HRda HPda HML HMO lda hn4
  rw [hne] at HRne HPne HML HMO lne hn6
  rw [hwd] at HRwd HPwd HKL HKO lwd hn8
  rw [hlo] at HRlo HPlo HKL HKO llo hn9
  rw [hnt] at HNT HPnt HKL HKO lnt hn10
  have HN4 := Lib.hid hn4
  have HN6 := Lib.hid hn6
  have HN8 := Lib.hid hn8
  have HN9 := Lib.hid hn9
  have HN10 := Lib.hid hn10
  rw [hn4] at lda
  rw [hn6] at lne
  rw [hn8] at lwd
  rw [hn9] at llo
  rw [hn10] at lnt
  clear hA hLa hAw hda hne hwd hlo hnt hn0 hn1 hn2 hn4 hn6 hn8 hn9 hn10
  obtain ⟨wB, hwB⟩ : ∃ x, w.alloc (.cells #[.slice o0 n0 p0, .slice o1 n1 p1, .slice o2 n2 p2, .bool A, .slice o4 n4 p4, .bool La, .slice o6 n6 p6, .bool Aw, .slice o8 n8 p8, .slice o9 n9 p9, .slice o10 n10 p10] 25) = x := ⟨_, rfl⟩
  have HBB : Hid (Below w.heap.size w wB) := Lib.hid (by rw [← hwB]; exact (Below.refl _ _).alloc (Nat.le_refl _) _)
  have hsz : wB.heap.size = w.heap.size + 1 := by rw [← hwB]; simp
  have hlt : w.heap.size < wB.heap.size := by omega
  have HQ0 : Hid (wB.cell? ⟨w.heap.size, 0, none⟩ = some (.slice o0 n0 p0)) := Lib.hid (by rw [← hwB]; simp)
  have HQ1 : Hid (wB.cell? ⟨w.heap.size, 1, none⟩ = some (.slice o1 n1 p1)) := Lib.hid (by rw [← hwB]; simp)
  have HQ2 : Hid (wB.cell? ⟨w.heap.size, 2, none⟩ = some (.slice o2 n2 p2)) := Lib.hid (by rw [← hwB]; simp)
  have HQ3 : Hid (wB.cell? ⟨w.heap.size, 3, none⟩ = some (.bool A)) := Lib.hid (by rw [← hwB]; simp)
  have HQ4 : Hid (wB.cell? ⟨w.heap.size, 4, none⟩ = some (.slice o4 n4 p4)) := Lib.hid (by rw [← hwB]; simp)
  have HQ5 : Hid (wB.cell? ⟨w.heap.size, 5, none⟩ = some (.bool La)) := Lib.hid (by rw [← hwB]; simp)
  have HQ6 : Hid (wB.cell? ⟨w.heap.size, 6, none⟩ = some (.slice o6 n6 p6)) := Lib.hid (by rw [← hwB]; simp)
  have HQ7 : Hid (wB.cell? ⟨w.heap.size, 7, none⟩ = some (.bool Aw)) := Lib.hid (by rw [← hwB]; simp)
  have HQ8 : Hid (wB.cell? ⟨w.heap.size, 8, none⟩ = some (.slice o8 n8 p8)) := Lib.hid (by rw [← hwB]; simp)
  have HQ9 : Hid (wB.cell? ⟨w.heap.size, 9, none⟩ = some (.slice o9 n9 p9)) := Lib.hid (by rw [← hwB]; simp)
  have HQ10 : Hid (wB.cell? ⟨w.heap.size, 10, none⟩ = some (.slice o10 n10 p10)) := Lib.hid (by rw [← hwB]; simp)
  have HwB := Lib.hid hwB
  clear hwB hsz
  have HB0 := Lib.hid ((Below.refl w.heap.size w).alloc (Nat.le_refl _) (.cells #[.slice o0 n0 p0, .slice o1 n1 p1, .slice o2 n2 p2, .bool A, .slice o4 n4 p4, .bool La, .slice o6 n6 p6, .bool Aw, .slice o8 n8 p8, .slice o9 n9 p9, .slice o10 n10 p10] 25))
  go_enter Tryd.func5, Tryd.ntmps5
  go_upto_region 7 with (go_at_call 7; refine Calls.mono (by with_reducible exact CK.out _ HB0.out) ?_; rintro e w1 ⟨rfl, hb1⟩; rw [HwB.out] at hb1; have HB1 := Lib.hid hb1; have hl1 := Nat.lt_of_lt_of_le hlt hb1.size; clear hb1)
  obtain ⟨wA, hwA⟩ : ∃ x, (w1.alloc (Obj.cells #[Value.string ⟨#[]⟩] 9)).alloc (Obj.cells #[Value.string ⟨#[]⟩] 9) = x := ⟨_, rfl⟩
  have HA : Hid (Below wB.heap.size wB wA) := Lib.hid (by rw [← hwA]; exact (HB1.out.alloc HB1.out.size _).alloc (by have := HB1.out.size; simp; omega) _)
  have HT0 : Hid (TwoS wA w1.heap.size (w1.heap.size + 1) (Lib.join ([] ++ wordsL (da.take 0) []) [44]) []) := Lib.hid (by
    rw [← hwA]
    have e : Lib.join ([] ++ wordsL (da.take 0) []) [44] = [] := rfl
    rw [e]
    exact ⟨by simp; omega, by simp, by simp, by simp, by simp, by simp⟩)
  have hB1s := HB1.out.size
  rw [hwA]
  obtain ⟨D, hD⟩ : ∃ x, w1.heap.size = x := ⟨_, rfl⟩
  rw [hD] at HT0 hB1s ⊢
  obtain ⟨K, hK⟩ : ∃ x, D + 1 = x := ⟨_, rfl⟩
  have HDK : Hid (D ≠ K) := Lib.hid (by omega)
  have HKB : Hid (wB.heap.size ≤ K) := Lib.hid (by omega)
  have HDB := Lib.hid hB1s
  rw [hK] at HT0 ⊢
  clear hwA hK hD hB1s hl1 HB0 HB1
  have c4 := (HA.out.cell (p := ⟨w.heap.size, 4, none⟩) hlt).trans HQ4.out
  have hl1 := Nat.lt_of_lt_of_le hlt HA.out.size
  go_wp2_with fail
  go_loopw [27] (fun c wr => ∃ k : Nat, c = .int .i64 (k : Int) ∧ k ≤ n4 ∧ Hid (TwoS wr D K (Lib.join ([] ++ wordsL (da.take k) []) [44]) []) ∧ Hid (Below wB.heap.size wB wr)) (fun c _ => n4 - (intOf c).toNat)
  case atStart => exact ⟨0, rfl, by omega, HT0, HA⟩
  case round =>
    obtain ⟨k, rfl, hk, HT1, HB1⟩ := hrel
    obtain ⟨wL1, rfl⟩ : ∃ wo : World, wo = wr := ⟨_, rfl⟩
    clear c4
    by_cases hkn : k < n4
    · have hkl : k < da.length := by rw [HN4.out]; exact hkn
      obtain ⟨ad, rfl, hc⟩ := (HPda.out.call (HBB.out.trans (HB1.out.mono HBB.out.size))).at hkl
      obtain ⟨hx0, hx1⟩ := HRda.out k hkl
      have HOK := Lib.hid (ok_take (HMO.out.left.left) (k + 1))
      have HOL := Lib.hid (ok_take (HMO.out.left.left) k)
      have HX := Lib.hid (words_snoc da [] k hkl)
      obtain ⟨x, hx⟩ : ∃ x, da.getD k 0 = x := ⟨_, rfl⟩
      rw [hx] at hc hx0 hx1 HX
      obtain ⟨M, hM⟩ : ∃ M : ByteArray, (⟨(numL x).toArray⟩ : ByteArray) = M := ⟨_, rfl⟩
      have HMl : Hid (M.data.toList = numL x) := Lib.hid (by rw [← hM])
      have hM1 : M.size ≤ 2 := by rw [Lib.size_eq, HMl.out]; exact numL_len x hx1
      have CI : Hid (∀ w0, Calls Tryd.prog 13 #[.int .i64 x] w0 fun e w' => e = .returned (.string M) ∧ w0 = w') := Lib.hid fun w0 => hM ▸ itoa_any x w0 hx0 hx1
      have HAX : Hid (M.data.toList = numL x ++ []) := Lib.hid (by rw [HMl.out, List.append_nil])
      have CA : Hid (∀ w0, TwoS w0 D K (Lib.join ([] ++ wordsL (da.take k) []) [44]) [] → Calls Tryd.prog 12 #[.pointer (some ⟨D, 0, none⟩), .string M] w0 fun e w' => e = .returned (.tuple #[]) ∧ TwoS w' D K (Lib.join ([] ++ wordsL (da.take (k + 1)) []) [44]) [] ∧ Below wB.heap.size w0 w') := Lib.hid fun w0 h => (addD_any wB.heap.size D K _ _ M w0 h HDK.out HDB.out HOL.out.join (by omega)).mono fun e w' ⟨h1, h2, h3, _⟩ => ⟨h1, by
        have e := HOK.out.add' (l := [] ++ wordsL (da.take k) []) (x := numL x ++ []) (by rw [HX.out]; simp only [List.append_assoc])
        rw [HAX.out, e.1] at h2
        rw [HX.out, ← List.append_assoc]
        exact h2, h3⟩
      clear hx hM hx0 hx1 hkl
      go_wp2_with (first
        | (go_at_call 13; (with_reducible refine (CI.out _).mono ?_); rintro e w' ⟨rfl, rfl⟩)
        | (go_at_call 12; (with_reducible refine (CA.out _ HT1.out).mono ?_); rintro e w' ⟨rfl, h2, h3⟩; have HT2 := Lib.hid h2; have HB2 := Lib.hid (HB1.out.trans h3); clear h2 h3))
      go_roundw
      case rel => exact ⟨k + 1, by go_num, by omega, HT2, HB2⟩
      case measure => simp [intOf]; omega
    · obtain rfl : k = n4 := by omega
      have HE1 : Hid (TwoS wL1 D K (Lib.join ([] ++ wordsL (da) []) [44]) []) := Lib.hid (by have h := HT1.out; rw [List.take_of_length_le (by rw [HN4.out]; exact Nat.le_refl _)] at h; exact h)
      clear HT1
      have HT0b : Hid (TwoS wL1 D K (Lib.join (([] ++ wordsL da []) ++ wordsL (ne.take 0) [87]) [44]) []) := Lib.hid (by have h := HE1.out; simpa [wordsL, Lib.join, List.intercalate] using h)
      have c6 := (HB1.out.cell (p := ⟨w.heap.size, 6, none⟩) hlt).trans HQ6.out
      have hl2 := Nat.lt_of_lt_of_le hlt HB1.out.size
      go_wp2_with fail
      go_loopw [39] (fun c wr => ∃ k : Nat, c = .int .i64 (k : Int) ∧ k ≤ n6 ∧ Hid (TwoS wr D K (Lib.join (([] ++ wordsL da []) ++ wordsL (ne.take k) [87]) [44]) []) ∧ Hid (Below wB.heap.size wB wr)) (fun c _ => n6 - (intOf c).toNat)
      case atStart => exact ⟨0, rfl, by omega, HT0b, HB1⟩
      case round =>
        obtain ⟨k, rfl, hk, HT2, HB2⟩ := hrel
        obtain ⟨wL2, rfl⟩ : ∃ wo : World, wo = wr := ⟨_, rfl⟩
        clear c6
        by_cases hkn : k < n6
        · have hkl : k < ne.length := by rw [HN6.out]; exact hkn
          obtain ⟨ad, rfl, hc⟩ := (HPne.out.call (HBB.out.trans (HB2.out.mono HBB.out.size))).at hkl
          obtain ⟨hx0, hx1⟩ := HRne.out k hkl
          have HOK := Lib.hid (ok_take (HMO.out.left) (k + 1))
          have HOL := Lib.hid (ok_take (HMO.out.left) k)
          have HX := Lib.hid (words_snoc ne [87] k hkl)
          obtain ⟨x, hx⟩ : ∃ x, ne.getD k 0 = x := ⟨_, rfl⟩
          rw [hx] at hc hx0 hx1 HX
          obtain ⟨M, hM⟩ : ∃ M : ByteArray, (⟨(numL x).toArray⟩ : ByteArray) = M := ⟨_, rfl⟩
          have HMl : Hid (M.data.toList = numL x) := Lib.hid (by rw [← hM])
          have hM1 : M.size ≤ 2 := by rw [Lib.size_eq, HMl.out]; exact numL_len x hx1
          have CI : Hid (∀ w0, Calls Tryd.prog 13 #[.int .i64 x] w0 fun e w' => e = .returned (.string M) ∧ w0 = w') := Lib.hid fun w0 => hM ▸ itoa_any x w0 hx0 hx1
          have HAX : Hid ((M ++ (⟨#[87]⟩ : ByteArray)).data.toList = numL x ++ [87]) := Lib.hid (by rw [app_eq, HMl.out])
          have CA : Hid (∀ w0, TwoS w0 D K (Lib.join (([] ++ wordsL da []) ++ wordsL (ne.take k) [87]) [44]) [] → Calls Tryd.prog 12 #[.pointer (some ⟨D, 0, none⟩), .string (M ++ (⟨#[87]⟩ : ByteArray))] w0 fun e w' => e = .returned (.tuple #[]) ∧ TwoS w' D K (Lib.join (([] ++ wordsL da []) ++ wordsL (ne.take (k + 1)) [87]) [44]) [] ∧ Below wB.heap.size w0 w') := Lib.hid fun w0 h => (addD_any wB.heap.size D K _ _ (M ++ (⟨#[87]⟩ : ByteArray)) w0 h HDK.out HDB.out HOL.out.join (by rw [ByteArray.size_append]; show M.size + 1 ≤ _; omega)).mono fun e w' ⟨h1, h2, h3, _⟩ => ⟨h1, by
            have e := HOK.out.add' (l := ([] ++ wordsL da []) ++ wordsL (ne.take k) [87]) (x := numL x ++ [87]) (by rw [HX.out]; simp only [List.append_assoc])
            rw [HAX.out, e.1] at h2
            rw [HX.out, ← List.append_assoc]
            exact h2, h3⟩
          clear hx hM hx0 hx1 hkl
          go_wp2_with (first
            | (go_at_call 13; (with_reducible refine (CI.out _).mono ?_); rintro e w' ⟨rfl, rfl⟩)
            | (go_at_call 12; (with_reducible refine (CA.out _ HT2.out).mono ?_); rintro e w' ⟨rfl, h2, h3⟩; have HT2 := Lib.hid h2; have HB2 := Lib.hid (HB2.out.trans h3); clear h2 h3))
          go_roundw
          case rel => exact ⟨k + 1, by go_num, by omega, HT2, HB2⟩
          case measure => simp [intOf]; omega
        · obtain rfl : k = n6 := by omega
          have HE2 : Hid (TwoS wL2 D K (Lib.join (([] ++ wordsL da []) ++ wordsL (ne) [87]) [44]) []) := Lib.hid (by have h := HT2.out; rw [List.take_of_length_le (by rw [HN6.out]; exact Nat.le_refl _)] at h; exact h)
          clear HT2
          have c5 := (HB2.out.cell (p := ⟨w.heap.size, 5, none⟩) hlt).trans HQ5.out
          have hl2b := Nat.lt_of_lt_of_le hlt HB2.out.size
          go_upto_if 50 with fail
          go_cut [0] from 9 (fun _ wx => Hid (TwoS wx D K (Lib.join ([] ++ wordsL da [] ++ wordsL ne [87] ++ (if La then [[76]] else [])) [44]) []) ∧ Hid (Below wB.heap.size wB wx))
          case first =>
            cases La with
            | true =>
              have CA : Hid (∀ w0, TwoS w0 D K (Lib.join ([] ++ wordsL da [] ++ wordsL ne [87]) [44]) [] → Calls Tryd.prog 12 #[.pointer (some ⟨D, 0, none⟩), .string ⟨#[76]⟩] w0 fun e w' => e = .returned (.tuple #[]) ∧ TwoS w' D K (Lib.join ([] ++ wordsL da [] ++ wordsL ne [87] ++ (if true = true then [[76]] else [])) [44]) [] ∧ Below wB.heap.size w0 w') := Lib.hid fun w0 h => (addD_any wB.heap.size D K _ _ ⟨#[76]⟩ w0 h HDK.out HDB.out HMO.out.left.join (by decide)).mono fun e w' ⟨h1, h2, h3, _⟩ => ⟨h1, by
                have e := HMO.out.add' (l := [] ++ wordsL da [] ++ wordsL ne [87]) (x := [76]) rfl
                have e2 : (⟨#[76]⟩ : ByteArray).data.toList = [76] := rfl
                rw [e2, e.1] at h2
                exact h2, h3⟩
              go_wp2_with (go_at_call 12; (with_reducible refine (CA.out _ HE2.out).mono ?_); rintro e w' ⟨rfl, h2, h3⟩; have HT2 := Lib.hid h2; have HB2 := Lib.hid (HB2.out.trans h3); clear h2 h3)
              go_meet
              case rel => exact ⟨HT2, HB2⟩
            | false =>
              have HT2 : Hid (TwoS wL2 D K (Lib.join ([] ++ wordsL da [] ++ wordsL ne [87] ++ (if false = true then [[76]] else [])) [44]) []) := Lib.hid (by simpa using HE2.out)
              go_wp2_with fail
              go_meet
              case rel => exact ⟨HT2, HB2⟩
          case rest =>
            obtain ⟨HT3, HB3⟩ := hcut
            obtain ⟨wR, rfl⟩ : ∃ x : World, x = wc := ⟨_, rfl⟩
            clear c5 hl2b HE2 HB2
            obtain ⟨JL, hJL⟩ : ∃ x, (Lib.join ([] ++ wordsL da [] ++ wordsL ne [87] ++ (if La then [[76]] else [])) [44]) = x := ⟨_, rfl⟩
            rw [hJL] at HT3 HML
            have hjl : JL.length ≤ 100000 := by rw [← hJL]; exact HMO.out.join
            clear hJL
            have HT3b : Hid (TwoS wR D K JL (Lib.join ([] ++ wordsL (wd.take 0) []) [44])) := Lib.hid HT3.out
            have c8 := (HB3.out.cell (p := ⟨w.heap.size, 8, none⟩) hlt).trans HQ8.out
            have hl3 := Nat.lt_of_lt_of_le hlt HB3.out.size
            go_wp2_with fail
            go_loopw [56] (fun c wr => ∃ k : Nat, c = .int .i64 (k : Int) ∧ k ≤ n8 ∧ Hid (TwoS wr D K JL (Lib.join ([] ++ wordsL (wd.take k) []) [44])) ∧ Hid (Below wB.heap.size wB wr)) (fun c _ => n8 - (intOf c).toNat)
            case atStart => exact ⟨0, rfl, by omega, HT3b, HB3⟩
            case round =>
              obtain ⟨k, rfl, hk, HT3, HB3⟩ := hrel
              obtain ⟨wL3, rfl⟩ : ∃ wo : World, wo = wr := ⟨_, rfl⟩
              clear c8
              by_cases hkn : k < n8
              · have hkl : k < wd.length := by rw [HN8.out]; exact hkn
                obtain ⟨ad, rfl, hc⟩ := (HPwd.out.call (HBB.out.trans (HB3.out.mono HBB.out.size))).at hkl
                obtain ⟨hx0, hx1⟩ := HRwd.out k hkl
                have HOK := Lib.hid (ok_take (HKO.out.left.left) (k + 1))
                have HOL := Lib.hid (ok_take (HKO.out.left.left) k)
                have HX := Lib.hid (words_snoc wd [] k hkl)
                obtain ⟨x, hx⟩ : ∃ x, wd.getD k 0 = x := ⟨_, rfl⟩
                rw [hx] at hc hx0 hx1 HX
                obtain ⟨M, hM⟩ : ∃ M : ByteArray, (⟨(numL x).toArray⟩ : ByteArray) = M := ⟨_, rfl⟩
                have HMl : Hid (M.data.toList = numL x) := Lib.hid (by rw [← hM])
                have hM1 : M.size ≤ 2 := by rw [Lib.size_eq, HMl.out]; exact numL_len x hx1
                have CI : Hid (∀ w0, Calls Tryd.prog 13 #[.int .i64 x] w0 fun e w' => e = .returned (.string M) ∧ w0 = w') := Lib.hid fun w0 => hM ▸ itoa_any x w0 hx0 hx1
                have HAX : Hid (M.data.toList = numL x ++ []) := Lib.hid (by rw [HMl.out, List.append_nil])
                have CA : Hid (∀ w0, TwoS w0 D K JL (Lib.join ([] ++ wordsL (wd.take k) []) [44]) → Calls Tryd.prog 12 #[.pointer (some ⟨K, 0, none⟩), .string M] w0 fun e w' => e = .returned (.tuple #[]) ∧ TwoS w' D K JL (Lib.join ([] ++ wordsL (wd.take (k + 1)) []) [44]) ∧ Below wB.heap.size w0 w') := Lib.hid fun w0 h => (addK_any wB.heap.size D K _ _ M w0 h HDK.out HKB.out HOL.out.join (by omega)).mono fun e w' ⟨h1, h2, h3, _⟩ => ⟨h1, by
                  have e := HOK.out.add' (l := [] ++ wordsL (wd.take k) []) (x := numL x ++ []) (by rw [HX.out]; simp only [List.append_assoc])
                  rw [HAX.out, e.1] at h2
                  rw [HX.out, ← List.append_assoc]
                  exact h2, h3⟩
                clear hx hM hx0 hx1 hkl
                go_wp2_with (first
                  | (go_at_call 13; (with_reducible refine (CI.out _).mono ?_); rintro e w' ⟨rfl, rfl⟩)
                  | (go_at_call 12; (with_reducible refine (CA.out _ HT3.out).mono ?_); rintro e w' ⟨rfl, h2, h3⟩; have HT2 := Lib.hid h2; have HB2 := Lib.hid (HB3.out.trans h3); clear h2 h3))
                go_roundw
                case rel => exact ⟨k + 1, by go_num, by omega, HT2, HB2⟩
                case measure => simp [intOf]; omega
              · obtain rfl : k = n8 := by omega
                have HE3 : Hid (TwoS wL3 D K JL (Lib.join ([] ++ wordsL (wd) []) [44])) := Lib.hid (by have h := HT3.out; rw [List.take_of_length_le (by rw [HN8.out]; exact Nat.le_refl _)] at h; exact h)
                clear HT3
                have HT0d : Hid (TwoS wL3 D K JL (Lib.join (([] ++ wordsL wd []) ++ wordsL (lo.take 0) [76]) [44])) := Lib.hid (by have h := HE3.out; simpa [wordsL, Lib.join, List.intercalate] using h)
                have c9 := (HB3.out.cell (p := ⟨w.heap.size, 9, none⟩) hlt).trans HQ9.out
                have hl4 := Nat.lt_of_lt_of_le hlt HB3.out.size
                go_wp2_with fail
                go_loopw [68] (fun c wr => ∃ k : Nat, c = .int .i64 (k : Int) ∧ k ≤ n9 ∧ Hid (TwoS wr D K JL (Lib.join (([] ++ wordsL wd []) ++ wordsL (lo.take k) [76]) [44])) ∧ Hid (Below wB.heap.size wB wr)) (fun c _ => n9 - (intOf c).toNat)
                case atStart => exact ⟨0, rfl, by omega, HT0d, HB3⟩
                case round =>
                  obtain ⟨k, rfl, hk, HT4, HB4⟩ := hrel
                  obtain ⟨wL4, rfl⟩ : ∃ wo : World, wo = wr := ⟨_, rfl⟩
                  clear c9
                  by_cases hkn : k < n9
                  · have hkl : k < lo.length := by rw [HN9.out]; exact hkn
                    obtain ⟨ad, rfl, hc⟩ := (HPlo.out.call (HBB.out.trans (HB4.out.mono HBB.out.size))).at hkl
                    obtain ⟨hx0, hx1⟩ := HRlo.out k hkl
                    have HOK := Lib.hid (ok_take (HKO.out.left) (k + 1))
                    have HOL := Lib.hid (ok_take (HKO.out.left) k)
                    have HX := Lib.hid (words_snoc lo [76] k hkl)
                    obtain ⟨x, hx⟩ : ∃ x, lo.getD k 0 = x := ⟨_, rfl⟩
                    rw [hx] at hc hx0 hx1 HX
                    obtain ⟨M, hM⟩ : ∃ M : ByteArray, (⟨(numL x).toArray⟩ : ByteArray) = M := ⟨_, rfl⟩
                    have HMl : Hid (M.data.toList = numL x) := Lib.hid (by rw [← hM])
                    have hM1 : M.size ≤ 2 := by rw [Lib.size_eq, HMl.out]; exact numL_len x hx1
                    have CI : Hid (∀ w0, Calls Tryd.prog 13 #[.int .i64 x] w0 fun e w' => e = .returned (.string M) ∧ w0 = w') := Lib.hid fun w0 => hM ▸ itoa_any x w0 hx0 hx1
                    have HAX : Hid ((M ++ (⟨#[76]⟩ : ByteArray)).data.toList = numL x ++ [76]) := Lib.hid (by rw [app_eq, HMl.out])
                    have CA : Hid (∀ w0, TwoS w0 D K JL (Lib.join (([] ++ wordsL wd []) ++ wordsL (lo.take k) [76]) [44]) → Calls Tryd.prog 12 #[.pointer (some ⟨K, 0, none⟩), .string (M ++ (⟨#[76]⟩ : ByteArray))] w0 fun e w' => e = .returned (.tuple #[]) ∧ TwoS w' D K JL (Lib.join (([] ++ wordsL wd []) ++ wordsL (lo.take (k + 1)) [76]) [44]) ∧ Below wB.heap.size w0 w') := Lib.hid fun w0 h => (addK_any wB.heap.size D K _ _ (M ++ (⟨#[76]⟩ : ByteArray)) w0 h HDK.out HKB.out HOL.out.join (by rw [ByteArray.size_append]; show M.size + 1 ≤ _; omega)).mono fun e w' ⟨h1, h2, h3, _⟩ => ⟨h1, by
                      have e := HOK.out.add' (l := ([] ++ wordsL wd []) ++ wordsL (lo.take k) [76]) (x := numL x ++ [76]) (by rw [HX.out]; simp only [List.append_assoc])
                      rw [HAX.out, e.1] at h2
                      rw [HX.out, ← List.append_assoc]
                      exact h2, h3⟩
                    clear hx hM hx0 hx1 hkl
                    go_wp2_with (first
                      | (go_at_call 13; (with_reducible refine (CI.out _).mono ?_); rintro e w' ⟨rfl, rfl⟩)
                      | (go_at_call 12; (with_reducible refine (CA.out _ HT4.out).mono ?_); rintro e w' ⟨rfl, h2, h3⟩; have HT2 := Lib.hid h2; have HB2 := Lib.hid (HB4.out.trans h3); clear h2 h3))
                    go_roundw
                    case rel => exact ⟨k + 1, by go_num, by omega, HT2, HB2⟩
                    case measure => simp [intOf]; omega
                  · obtain rfl : k = n9 := by omega
                    have HE4 : Hid (TwoS wL4 D K JL (Lib.join (([] ++ wordsL wd []) ++ wordsL (lo) [76]) [44])) := Lib.hid (by have h := HT4.out; rw [List.take_of_length_le (by rw [HN9.out]; exact Nat.le_refl _)] at h; exact h)
                    clear HT4
                    have HT0e : Hid (TwoS wL4 D K JL (Lib.join (([] ++ wordsL wd [] ++ wordsL lo [76]) ++ nthL (nt.take 0)) [44])) := Lib.hid (by have h := HE4.out; simpa [nthL] using h)
                    have c10 := (HB4.out.cell (p := ⟨w.heap.size, 10, none⟩) hlt).trans HQ10.out
                    have hl5 := Nat.lt_of_lt_of_le hlt HB4.out.size
                    go_wp2_with fail
                    go_loopw [81] (fun c wr => ∃ k : Nat, c = .int .i64 (k : Int) ∧ k ≤ n10 ∧ Hid (TwoS wr D K JL (Lib.join (([] ++ wordsL wd [] ++ wordsL lo [76]) ++ nthL (nt.take k)) [44])) ∧ Hid (Below wB.heap.size wB wr)) (fun c _ => n10 - (intOf c).toNat)
                    case atStart => exact ⟨0, rfl, by omega, HT0e, HB4⟩
                    case round =>
                      obtain ⟨k, rfl, hk, HT5, HB5⟩ := hrel
                      obtain ⟨wA', rfl⟩ : ∃ wo : World, wo = wr := ⟨_, rfl⟩
                      clear c10
                      by_cases hkn : k < n10
                      · have hkl : k < nt.length := by rw [HN10.out]; exact hkn
                        obtain ⟨ad, rfl, hc1, hc2⟩ := (HPnt.out.call (HBB.out.trans (HB5.out.mono HBB.out.size))).at hkl
                        have hNA := nth_at HNT.out k hkl
                        unfold NthAt at hNA
                        have HSN := Lib.hid (nth_snoc nt k hkl)
                        have HOK := Lib.hid (ok_takeN HKO.out (k + 1))
                        have HOL := Lib.hid (ok_takeN HKO.out k)
                        obtain ⟨N, hN⟩ : ∃ x, (nt.getD k (0, 0)).1 = x := ⟨_, rfl⟩
                        obtain ⟨Y, hY⟩ : ∃ x, (nt.getD k (0, 0)).2 = x := ⟨_, rfl⟩
                        rw [hN] at hc1 HSN hNA
                        rw [hY] at hc2 HSN hNA
                        obtain ⟨g1, g2, g3, g4, -⟩ := hNA
                        clear hN hY hkl
                        obtain ⟨SN, hSN⟩ : ∃ M : ByteArray, (⟨(numL N).toArray⟩ : ByteArray) = M := ⟨_, rfl⟩
                        obtain ⟨SY, hSY⟩ : ∃ M : ByteArray, (⟨(numL Y).toArray⟩ : ByteArray) = M := ⟨_, rfl⟩
                        have CN : Hid (∀ w0, Calls Tryd.prog 13 #[.int .i64 N] w0 fun e w' => e = .returned (.string SN) ∧ w0 = w') := Lib.hid fun w0 => hSN ▸ itoa_any N w0 (by omega) (by omega)
                        have CY : Hid (∀ w0, Calls Tryd.prog 13 #[.int .i64 Y] w0 fun e w' => e = .returned (.string SY) ∧ w0 = w') := Lib.hid fun w0 => hSY ▸ itoa_any Y w0 (by omega) (by omega)
                        have lSN : SN.size ≤ 2 := by rw [Lib.size_eq, ← hSN]; exact numL_len N (by omega)
                        have lSY : SY.size ≤ 2 := by rw [Lib.size_eq, ← hSY]; exact numL_len Y (by omega)
                        have HTX : Hid ((SY ++ (⟨#[35]⟩ : ByteArray) ++ SN).data.toList = numL Y ++ [35] ++ numL N) := Lib.hid (by rw [app_eq, app_eq, ← hSN, ← hSY])
                        have CA : Hid (∀ w0, TwoS w0 D K JL (Lib.join (([] ++ wordsL wd [] ++ wordsL lo [76]) ++ nthL (nt.take k)) [44]) → Calls Tryd.prog 12 #[.pointer (some ⟨K, 0, none⟩), .string (SY ++ (⟨#[35]⟩ : ByteArray) ++ SN)] w0 fun e w' => e = .returned (.tuple #[]) ∧ TwoS w' D K JL (Lib.join (([] ++ wordsL wd [] ++ wordsL lo [76]) ++ nthL (nt.take (k + 1))) [44]) ∧ Below wB.heap.size w0 w' ∧ ∀ b o, b ≠ K → w'.cell? ⟨b, o, none⟩ = w0.cell? ⟨b, o, none⟩) := Lib.hid fun w0 h => (addK_any wB.heap.size D K _ _ (SY ++ (⟨#[35]⟩ : ByteArray) ++ SN) w0 h HDK.out HKB.out HOL.out.join (by rw [ByteArray.size_append, ByteArray.size_append]; show SY.size + 1 + SN.size ≤ _; omega)).mono fun e w' ⟨h1, h2, h3, h4⟩ => ⟨h1, by
                          have e := HOK.out.add' (l := ([] ++ wordsL wd [] ++ wordsL lo [76]) ++ nthL (nt.take k)) (x := numL Y ++ [35] ++ numL N) (by rw [HSN.out]; simp only [List.append_assoc])
                          rw [HTX.out, e.1] at h2
                          rw [HSN.out, ← List.append_assoc]
                          exact h2, h3, h4⟩
                        have HKW : Hid (K ≠ wA'.heap.size) := Lib.hid (Nat.ne_of_lt HT5.out.2.1)
                        obtain ⟨wX, hwX⟩ : ∃ x, wA'.alloc (.cells #[.int .i64 N, .int .i64 Y] 42) = x := ⟨_, rfl⟩
                        have x0 : wX.cell? ⟨wA'.heap.size, 0, none⟩ = some (.int .i64 N) := by rw [← hwX]; simp
                        have x1 : wX.cell? ⟨wA'.heap.size, 1, none⟩ = some (.int .i64 Y) := by rw [← hwX]; simp
                        have HXA : Hid (Below wA'.heap.size wA' wX) := Lib.hid (by rw [← hwX]; exact (Below.refl _ _).alloc (Nat.le_refl _) _)
                        have HwX := Lib.hid hwX
                        have HBX := Lib.hid (HB5.out.trans ((below_drew HXA.out).mono HB5.out.size))
                        have HTX5 : Hid (TwoS wX.drew D K JL (Lib.join (([] ++ wordsL wd [] ++ wordsL lo [76]) ++ nthL (nt.take k)) [44])) := Lib.hid (HT5.out.call (below_drew HXA.out))
                        have HXc : Hid (wX.drew.cell? ⟨wA'.heap.size, 0, none⟩ = some (.int .i64 N) ∧ wX.drew.cell? ⟨wA'.heap.size, 1, none⟩ = some (.int .i64 Y)) := Lib.hid ⟨x0, x1⟩
                        have q1 : ¬ 9223372036854775807 < SY.size + 1 := by omega
                        have q2 : ¬ 9223372036854775807 ≤ SY.size := by omega
                        have q3 : ¬ 9223372036854775807 < SY.size + 1 + SN.size := by omega
                        have q4 : ¬ 9223372036854775806 < SY.size + SN.size := by omega
                        clear hwX hSN hSY g1 g2 g3 g4 x0 x1
                        go_wp2_with fail
                        rw [HwX.out]
                        go_region_held3 (fun w' => w'.cell? ⟨wA'.heap.size, 0, none⟩ = some (.int .i64 N) ∧ w'.cell? ⟨wA'.heap.size, 1, none⟩ = some (.int .i64 Y)) (exact HXc.out)
                         (first
                          | (go_at_call 13; (with_reducible refine (CY.out _).mono ?_); rintro e w' ⟨rfl, rfl⟩; try dsimp only)
                          | (go_at_call 13; (with_reducible refine (CN.out _).mono ?_); rintro e w' ⟨rfl, rfl⟩; try dsimp only)
                          | (go_at_call 12; (with_reducible refine (CA.out _ HTX5.out).mono ?_); rintro e w7 ⟨rfl, h2, h3, h4⟩; have HT2 := Lib.hid h2; have HB2 := Lib.hid (HBX.out.trans h3); replace HXc := Lib.hid (show w7.cell? ⟨wA'.heap.size, 0, none⟩ = some (.int .i64 N) ∧ w7.cell? ⟨wA'.heap.size, 1, none⟩ = some (.int .i64 Y) from ⟨(h4 _ _ (Ne.symm HKW.out)).trans HXc.out.1, (h4 _ _ (Ne.symm HKW.out)).trans HXc.out.2⟩); clear h2 h3 h4; try dsimp only))
                        go_wp2_with fail
                        go_roundw
                        case rel => exact ⟨k + 1, by go_num, by omega, HT2, HB2⟩
                        case measure => simp [intOf]; omega
                      · obtain rfl : k = n10 := by omega
                        have HE5 : Hid (TwoS wA' D K JL (Lib.join (([] ++ wordsL wd [] ++ wordsL lo [76]) ++ nthL (nt)) [44])) := Lib.hid (by have h := HT5.out; rw [List.take_of_length_le (by rw [HN10.out]; exact Nat.le_refl _)] at h; exact h)
                        obtain ⟨JW, hJW⟩ : ∃ x, Lib.join (([] ++ wordsL wd [] ++ wordsL lo [76]) ++ nthL nt) [44] = x := ⟨_, rfl⟩
                        rw [hJW] at HE5 HKL
                        clear HT5 hJW
                        have c3 := (HB5.out.cell (p := ⟨w.heap.size, 3, none⟩) hlt).trans HQ3.out
                        have hl6 := Nat.lt_of_lt_of_le hlt HB5.out.size
                        go_upto_if 97 with fail
                        go_cut [0] from 82 (fun _ wx => Hid (TwoS wx D K JM JW) ∧ Hid (Below wB.heap.size wB wx))
                        case first =>
                          cases A with
                          | true =>
                            have HT6 : Hid (TwoS (wA'.setCell ⟨D, 0, none⟩ (.string ⟨#[42]⟩)) D K JM JW) := Lib.hid (by rw [HML.out]; exact HE5.out.setD HDK.out [42])
                            have HB6 : Hid (Below wB.heap.size wB (wA'.setCell ⟨D, 0, none⟩ (.string ⟨#[42]⟩))) := Lib.hid (HB5.out.setCell HDB.out _)
                            obtain ⟨t1, t2, t3, t4, t5, t6⟩ := HE5.out
                            go_wp2_with fail
                            go_meet
                            case rel => exact ⟨HT6, HB6⟩
                          | false =>
                            have HT6 : Hid (TwoS wA' D K JM JW) := Lib.hid (by rw [HML.out]; exact HE5.out)
                            go_wp2_with fail
                            go_meet
                            case rel => exact ⟨HT6, HB5⟩
                        case rest =>
                          obtain ⟨HT7, HB7⟩ := hcut
                          obtain ⟨wS, rfl⟩ : ∃ x : World, x = wc := ⟨_, rfl⟩
                          clear c3 hl6 HE5
                          have c7 := (HB7.out.cell (p := ⟨w.heap.size, 7, none⟩) hlt).trans HQ7.out
                          have hl7 := Nat.lt_of_lt_of_le hlt HB7.out.size
                          go_upto_if 99 with fail
                          go_cut [0] from 82 (fun _ wx => Hid (TwoS wx D K JM JK) ∧ Hid (Below wB.heap.size wB wx))
                          case first =>
                            cases Aw with
                            | true =>
                              have HT6 : Hid (TwoS (wS.setCell ⟨K, 0, none⟩ (.string ⟨#[42]⟩)) D K JM JK) := Lib.hid (by rw [HKL.out]; exact HT7.out.setK HDK.out [42])
                              have HB6 : Hid (Below wB.heap.size wB (wS.setCell ⟨K, 0, none⟩ (.string ⟨#[42]⟩))) := Lib.hid (HB7.out.setCell HKB.out _)
                              obtain ⟨t1, t2, t3, t4, t5, t6⟩ := HT7.out
                              go_wp2_with fail
                              go_meet
                              case rel => exact ⟨HT6, HB6⟩
                            | false =>
                              have HT6 : Hid (TwoS wS D K JM JK) := Lib.hid (by rw [HKL.out]; exact HT7.out)
                              go_wp2_with fail
                              go_meet
                              case rel => exact ⟨HT6, HB7⟩
                          case rest =>
                            obtain ⟨HT8, HB8⟩ := hcut
                            obtain ⟨wF, rfl⟩ : ∃ x : World, x = wc := ⟨_, rfl⟩
                            clear c7 hl7
                            have c0 := (HB8.out.cell (p := ⟨w.heap.size, 0, none⟩) hlt).trans HQ0.out
                            have c1 := (HB8.out.cell (p := ⟨w.heap.size, 1, none⟩) hlt).trans HQ1.out
                            have c2 := (HB8.out.cell (p := ⟨w.heap.size, 2, none⟩) hlt).trans HQ2.out
                            obtain ⟨S0, hS0⟩ : ∃ x : ByteArray, (⟨W0.toArray⟩ : ByteArray) = x := ⟨_, rfl⟩
                            obtain ⟨S1, hS1⟩ : ∃ x : ByteArray, (⟨W1.toArray⟩ : ByteArray) = x := ⟨_, rfl⟩
                            obtain ⟨S2, hS2⟩ : ∃ x : ByteArray, (⟨W2.toArray⟩ : ByteArray) = x := ⟨_, rfl⟩
                            obtain ⟨SM, hSM⟩ : ∃ x : ByteArray, (⟨JM.toArray⟩ : ByteArray) = x := ⟨_, rfl⟩
                            obtain ⟨SK, hSK⟩ : ∃ x : ByteArray, (⟨JK.toArray⟩ : ByteArray) = x := ⟨_, rfl⟩
                            have z0 : S0.size ≤ 2000 := by rw [← hS0, Lib.size_eq]; exact hw0
                            have z1 : S1.size ≤ 2000 := by rw [← hS1, Lib.size_eq]; exact hw1
                            have z2 : S2.size ≤ 2000 := by rw [← hS2, Lib.size_eq]; exact hw2
                            have zM : SM.size ≤ 2000 := by rw [← hSM, Lib.size_eq]; exact hjm
                            have zK : SK.size ≤ 2000 := by rw [← hSK, Lib.size_eq]; exact hjk
                            rw [hS0] at CW0 HTJ
                            rw [hS1] at CW1 HTJ
                            rw [hS2] at CW2 HTJ
                            rw [hSM, hSK] at HTJ
                            obtain ⟨-, -, d0, d1, -, -⟩ := HT8.out
                            rw [hSM] at d0
                            rw [hSK] at d1
                            clear hS0 hS1 hS2 hSM hSK
                            have Q0 : Hid (∀ n, Calls Tryd.prog 10 #[.slice o0 n0 p0, .int .i64 60] (wF.drewN n) fun e w' => e = .returned (.string S0) ∧ w' = wF.drewN n) := Lib.hid fun n => CW0.out _ (below_drewN (HBB.out.trans (HB8.out.mono HBB.out.size)) n)
                            have Q1 : Hid (∀ n, Calls Tryd.prog 10 #[.slice o1 n1 p1, .int .i64 24] (wF.drewN n) fun e w' => e = .returned (.string S1) ∧ w' = wF.drewN n) := Lib.hid fun n => CW1.out _ (below_drewN (HBB.out.trans (HB8.out.mono HBB.out.size)) n)
                            have Q2 : Hid (∀ n, Calls Tryd.prog 10 #[.slice o2 n2 p2, .int .i64 12] (wF.drewN n) fun e w' => e = .returned (.string S2) ∧ w' = wF.drewN n) := Lib.hid fun n => CW2.out _ (below_drewN (HBB.out.trans (HB8.out.mono HBB.out.size)) n)
                            have HBF := Lib.hid (HBB.out.trans (HB8.out.mono HBB.out.size))
                            go_wp2_with fail
                            go_quiet ((go_at_call 10; (first | with_reducible exact Calls.quiet_of_same (Q0.out _) | with_reducible exact Calls.quiet_of_same (Q1.out _) | with_reducible exact Calls.quiet_of_same (Q2.out _))))
                            go_wp2_with fail
                            go_ret2
                            exact ⟨by rw [HTJ.out]; rfl, below_drewN HBF.out _⟩
end Go.Proofs.YtdnbnpknmdcljaaDoor