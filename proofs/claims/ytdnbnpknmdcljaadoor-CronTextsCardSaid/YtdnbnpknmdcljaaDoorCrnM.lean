/- cron.Text. -/
import Derived.Test.YtdnbnpknmdcljaaDoorCrnE
import Derived.Test.YtdnbnpknmdcljaaDoorCrnK
import Derived.Test.YtdnbnpknmdcljaaDoorCrnL
import Derived.Test.YtdnbnpknmdcljaaDoorCrnN
import Derived.Test.YtdnbnpknmdcljaaDoorQTail
import Derived.Test.YtdnbnpknmdcljaaDoorAppend
import Derived.Deep.Cut
import Derived.Deep.CutRange
import Derived.Deep.RegionHeld3
import Derived.Laws.OwnMore
import Derived.Deep.Onto
namespace Go.Proofs.YtdnbnpknmdcljaaDoor
open Go.RowKit Go.Shelf
theorem strL_lit (w : World) (X : List (List UInt8)) (b : Nat) (hb : b ≤ w.heap.size) (hn : X.length ≤ 1000) : StrL (w.alloc (.cells (strV X).toArray 9)) b (.slice (some ⟨w.heap.size, 0, none⟩) X.length X.length) X := by
  have := World.ownsRow_lit (base := b) (e := 9) (size := 1) w (strV X).toArray X.length hb (by unfold maxLen; omega) (by simp [strV])
  simpa [StrL] using this
theorem StrL.alloc {w : World} {b : Nat} {v : Value} {l : List (List UInt8)} (h : StrL w b v l) (o : Obj) : StrL (w.alloc o) b v l := World.ownsRow.alloc h o
theorem StrL.drew {w : World} {b : Nat} {v : Value} {l : List (List UInt8)} (h : StrL w b v l) : StrL w.drew b v l := World.ownsRow.drew h
theorem row_call {w w' : World} {b : Nat} {e : TypeId} {z : Nat} {v : Value} {n : Nat} {xs : List Value} (h : World.ownsRow w b e z v n xs) (hb : Below w.heap.size w w') : World.ownsRow w' b e z v n xs :=
  World.ownsRow.kept (row := none) h ⟨hb.os, hb.tape, hb.output, hb.size, fun k hk _ => hb.block k hk⟩ (by cases hv : v.ownBlock <;> simp)
theorem join_short (X : List (List UInt8)) (hn : X.length ≤ 300) (hx : ∀ x, x ∈ X → x.length ≤ 5) : (Lib.join X [44]).length ≤ 2000 := by
  have := join_wlen X 5 hx
  omega
theorem nth_words (l : List (Int × Int)) (h : nthB l = true) (x : List UInt8) (hx : x ∈ nthL l) : x.length ≤ 5 := by
  unfold nthL at hx
  obtain ⟨p, hp, rfl⟩ := List.mem_map.1 hx
  obtain ⟨k, hk, rfl⟩ := List.mem_iff_getElem.1 hp
  have h1 := nth_at h k hk
  unfold NthAt at h1
  rw [List.getD, List.getElem?_eq_getElem hk] at h1
  have h2 := numL_len l[k].1 (by have := h1.2.1; simp at this; omega)
  have h3 := numL_len l[k].2 (by have := h1.2.2.2.1; simp at this; omega)
  simp only [List.length_append, List.length_cons, List.length_nil]
  omega
theorem month_words (c : Cron) (h : CronG c) (x : List UInt8) (hx : x ∈ monthL c) : x.length ≤ 5 := by
  unfold monthL at hx
  have e1 := words_mem c.da [] (small_of h.da (by omega) (by omega)) x
  have e2 := words_mem c.ne [87] (small_of h.ne (by omega) (by omega)) x
  split at hx
  · obtain rfl := List.mem_singleton.1 hx
    simp
  · rcases List.mem_append.1 hx with hx | hx
    · rcases List.mem_append.1 hx with hx | hx
      · have := e1 hx; simp at this; omega
      · have := e2 hx; simp at this; omega
    · split at hx
      · obtain rfl := List.mem_singleton.1 hx
        simp
      · simp at hx
theorem week_words (c : Cron) (h : CronG c) (x : List UInt8) (hx : x ∈ weekL c) : x.length ≤ 5 := by
  unfold weekL at hx
  have e1 := words_mem c.wd [] (small_of h.wd (by omega) (by omega)) x
  have e2 := words_mem c.lo [76] (small_of h.lo (by omega) (by omega)) x
  have e3 := nth_words c.nt h.nt x
  split at hx
  · obtain rfl := List.mem_singleton.1 hx
    simp
  · rcases List.mem_append.1 hx with hx | hx
    · rcases List.mem_append.1 hx with hx | hx
      · have := e1 hx; simp at this; omega
      · have := e2 hx; simp at this; omega
    · exact e3 hx
theorem month_len (c : Cron) (h : CronG c) : (monthL c).length ≤ 300 := by
  have h1 := short_of h.da (by omega)
  have h2 := short_of h.ne (by omega)
  unfold monthL
  cases c.any <;> cases c.la <;> simp [words_len] <;> omega
theorem week_len (c : Cron) (h : CronG c) : (weekL c).length ≤ 300 := by
  have h1 := short_of h.wd (by omega)
  have h2 := short_of h.lo (by omega)
  have h3 := nth_len h.nt
  unfold weekL
  cases c.aw <;> simp [words_len, nthL] <;> omega
theorem whole_short (l : List Int) (m : Nat) (hl : l.length ≤ 100) (hr : ∀ k, k < l.length → 0 ≤ l.getD k 0 ∧ l.getD k 0 < 100) : (wholeL l m).length ≤ 2000 := by
  unfold wholeL
  split
  · simp
  · have h1 := join_wlen (wordsL l []) 2 (fun x hx => words_mem l [] hr x hx)
    rw [words_len] at h1
    omega
set_option maxRecDepth 100000 in
set_option maxHeartbeats 16000000 in
theorem text_good (c : Cron) (v0 v1 v2 v4 v6 v8 v9 v10 : Value) (w : World) (h : CronR w c v0 v1 v2 v4 v6 v8 v9 v10) (hz : CronZ c) (hok : c.ok = true) :
    Calls Tryd.prog 8 #[cronV c v0 v1 v2 v4 v6 v8 v9 v10] w fun e w' => e = .returned (.tuple #[.string ⟨(textL c).toArray⟩, .nilIface]) ∧ Below w.heap.size w w' := by
  have HG := Lib.hid (ok_good hok)
  have HR := Lib.hid h
  have CK : Hid (∀ w0, Below w.heap.size w w0 → Calls Tryd.prog 14 #[cronV c v0 v1 v2 v4 v6 v8 v9 v10] w0 fun e w' => e = .returned .nilIface ∧ Below w0.heap.size w0 w') := Lib.hid fun w0 hb => by
    have k := check_any c _ _ _ _ _ _ _ _ w0 (h.call hb) hz
    rw [hok] at k
    exact k
  have hg := ok_good hok
  obtain ⟨L4, hL4⟩ : ∃ x, wordsL c.da [] = x := ⟨_, rfl⟩
  have CT4 : Hid (∀ w0, Below w.heap.size w w0 → Calls Tryd.prog 17 #[v4, .string ⟨#[]⟩] w0 fun e w' => ∃ v', e = .returned v' ∧ StrL w' w0.heap.size v' L4 ∧ Below w0.heap.size w0 w') := Lib.hid fun w0 hb => hL4 ▸ texts_any v4 c.da ⟨#[]⟩ w0 (h.call hb).da (Nat.le_trans (short_of hg.da (by omega)) (by omega)) (small_of hg.da (by omega) (by omega)) (by decide)
  have hl4 : L4.length ≤ 100 := by rw [← hL4, words_len]; exact short_of hg.da (by omega)
  obtain ⟨L6, hL6⟩ : ∃ x, wordsL c.ne [87] = x := ⟨_, rfl⟩
  have CT6 : Hid (∀ w0, Below w.heap.size w w0 → Calls Tryd.prog 17 #[v6, .string ⟨#[87]⟩] w0 fun e w' => ∃ v', e = .returned v' ∧ StrL w' w0.heap.size v' L6 ∧ Below w0.heap.size w0 w') := Lib.hid fun w0 hb => hL6 ▸ texts_any v6 c.ne ⟨#[87]⟩ w0 (h.call hb).ne (Nat.le_trans (short_of hg.ne (by omega)) (by omega)) (small_of hg.ne (by omega) (by omega)) (by decide)
  have hl6 : L6.length ≤ 100 := by rw [← hL6, words_len]; exact short_of hg.ne (by omega)
  obtain ⟨L8, hL8⟩ : ∃ x, wordsL c.wd [] = x := ⟨_, rfl⟩
  have CT8 : Hid (∀ w0, Below w.heap.size w w0 → Calls Tryd.prog 17 #[v8, .string ⟨#[]⟩] w0 fun e w' => ∃ v', e = .returned v' ∧ StrL w' w0.heap.size v' L8 ∧ Below w0.heap.size w0 w') := Lib.hid fun w0 hb => hL8 ▸ texts_any v8 c.wd ⟨#[]⟩ w0 (h.call hb).wd (Nat.le_trans (short_of hg.wd (by omega)) (by omega)) (small_of hg.wd (by omega) (by omega)) (by decide)
  have hl8 : L8.length ≤ 100 := by rw [← hL8, words_len]; exact short_of hg.wd (by omega)
  obtain ⟨L9, hL9⟩ : ∃ x, wordsL c.lo [76] = x := ⟨_, rfl⟩
  have CT9 : Hid (∀ w0, Below w.heap.size w w0 → Calls Tryd.prog 17 #[v9, .string ⟨#[76]⟩] w0 fun e w' => ∃ v', e = .returned v' ∧ StrL w' w0.heap.size v' L9 ∧ Below w0.heap.size w0 w') := Lib.hid fun w0 hb => hL9 ▸ texts_any v9 c.lo ⟨#[76]⟩ w0 (h.call hb).lo (Nat.le_trans (short_of hg.lo (by omega)) (by omega)) (small_of hg.lo (by omega) (by omega)) (by decide)
  have hl9 : L9.length ≤ 100 := by rw [← hL9, words_len]; exact short_of hg.lo (by omega)
  obtain ⟨W0, hW0⟩ : ∃ x, wholeL c.mi 60 = x := ⟨_, rfl⟩
  have CW0 : Hid (∀ w0, Below w.heap.size w w0 → Calls Tryd.prog 19 #[v0, .int .i64 60] w0 fun e w' => e = .returned (.string ⟨W0.toArray⟩) ∧ Below w0.heap.size w0 w') := Lib.hid fun w0 hb => hW0 ▸ whole_any v0 c.mi 60 w0 (h.call hb).mi (Nat.le_trans (short_of hg.mi (by omega)) (by omega)) (by decide) (small_of hg.mi (by omega) (by omega))
  have hw0 : W0.length ≤ 2000 := by rw [← hW0]; exact whole_short _ _ (short_of hg.mi (by omega)) (small_of hg.mi (by omega) (by omega))
  obtain ⟨W1, hW1⟩ : ∃ x, wholeL c.ho 24 = x := ⟨_, rfl⟩
  have CW1 : Hid (∀ w0, Below w.heap.size w w0 → Calls Tryd.prog 19 #[v1, .int .i64 24] w0 fun e w' => e = .returned (.string ⟨W1.toArray⟩) ∧ Below w0.heap.size w0 w') := Lib.hid fun w0 hb => hW1 ▸ whole_any v1 c.ho 24 w0 (h.call hb).ho (Nat.le_trans (short_of hg.ho (by omega)) (by omega)) (by decide) (small_of hg.ho (by omega) (by omega))
  have hw1 : W1.length ≤ 2000 := by rw [← hW1]; exact whole_short _ _ (short_of hg.ho (by omega)) (small_of hg.ho (by omega) (by omega))
  obtain ⟨W2, hW2⟩ : ∃ x, wholeL c.mo 12 = x := ⟨_, rfl⟩
  have CW2 : Hid (∀ w0, Below w.heap.size w w0 → Calls Tryd.prog 19 #[v2, .int .i64 12] w0 fun e w' => e = .returned (.string ⟨W2.toArray⟩) ∧ Below w0.heap.size w0 w') := Lib.hid fun w0 hb => hW2 ▸ whole_any v2 c.mo 12 w0 (h.call hb).mo (Nat.le_trans (short_of hg.mo (by omega)) (by omega)) (by decide) (small_of hg.mo (by omega) (by omega))
  have hw2 : W2.length ≤ 2000 := by rw [← hW2]; exact whole_short _ _ (short_of hg.mo (by omega)) (small_of hg.mo (by omega) (by omega))
  obtain ⟨L46, hL46⟩ : ∃ x, L4 ++ L6 = x := ⟨_, rfl⟩
  obtain ⟨N46, hN46⟩ : ∃ x, L46.length = x := ⟨_, rfl⟩
  have hNl46 : N46 ≤ 200 := by rw [← hN46, ← hL46, List.length_append]; omega
  have CC46 : Hid (∀ (w0 : World) (X B0 B1 : Nat) (u0 u1 : Value), StrL w0 B0 u0 L4 → StrL w0 B1 u1 L6 → w0.cell? ⟨X, 0, none⟩ = some u0 → w0.cell? ⟨X, 1, none⟩ = some u1 → Calls Tryd.prog 16 #[.slice (some ⟨X, 0, none⟩) 2 2] w0 fun e w' => ∃ x y, e = .returned (.slice x N46 y) ∧ w'.ownsRow w0.heap.size 9 1 (.slice x N46 y) N46 (strV L46) ∧ Below w0.heap.size w0 w') := Lib.hid fun w0 X B0 B1 u0 u1 h0 h1 c0 c1 => (concat_any X u0 u1 L4 L6 B0 B1 w0 h0 h1 (by omega) c0 c1).mono fun e w' ⟨v, he, hs, hb⟩ => by
    obtain ⟨x, y, rfl⟩ := hs.form
    unfold StrL at hs
    rw [hL46, hN46] at hs
    rw [hL46, hN46] at he
    exact ⟨x, y, he, hs, hb⟩
  obtain ⟨L89, hL89⟩ : ∃ x, L8 ++ L9 = x := ⟨_, rfl⟩
  obtain ⟨N89, hN89⟩ : ∃ x, L89.length = x := ⟨_, rfl⟩
  have hNl89 : N89 ≤ 200 := by rw [← hN89, ← hL89, List.length_append]; omega
  have CC89 : Hid (∀ (w0 : World) (X B0 B1 : Nat) (u0 u1 : Value), StrL w0 B0 u0 L8 → StrL w0 B1 u1 L9 → w0.cell? ⟨X, 0, none⟩ = some u0 → w0.cell? ⟨X, 1, none⟩ = some u1 → Calls Tryd.prog 16 #[.slice (some ⟨X, 0, none⟩) 2 2] w0 fun e w' => ∃ x y, e = .returned (.slice x N89 y) ∧ w'.ownsRow w0.heap.size 9 1 (.slice x N89 y) N89 (strV L89) ∧ Below w0.heap.size w0 w') := Lib.hid fun w0 X B0 B1 u0 u1 h0 h1 c0 c1 => (concat_any X u0 u1 L8 L9 B0 B1 w0 h0 h1 (by omega) c0 c1).mono fun e w' ⟨v, he, hs, hb⟩ => by
    obtain ⟨x, y, rfl⟩ := hs.form
    unfold StrL at hs
    rw [hL89, hN89] at hs
    rw [hL89, hN89] at he
    exact ⟨x, y, he, hs, hb⟩
  obtain ⟨M, hM⟩ : ∃ x, monthL c = x := ⟨_, rfl⟩
  obtain ⟨K, hK⟩ : ∃ x, weekL c = x := ⟨_, rfl⟩
  have hMn : M.length ≤ 300 := hM ▸ month_len c hg
  have hKn : K.length ≤ 300 := hK ▸ week_len c hg
  obtain ⟨JM, hJM⟩ : ∃ x, Lib.join M [44] = x := ⟨_, rfl⟩
  obtain ⟨JK, hJK⟩ : ∃ x, Lib.join K [44] = x := ⟨_, rfl⟩
  have hjm : JM.length ≤ 2000 := hJM ▸ join_short M hMn (hM ▸ month_words c hg)
  have hjk : JK.length ≤ 2000 := hJK ▸ join_short K hKn (hK ▸ week_words c hg)
  have CJM : Hid (∀ (v' : Value) (b : Nat) (w0 : World), StrL w0 b v' M → Calls Tryd.prog 18 #[v', .string ⟨#[44]⟩] w0 fun e w' => e = .returned (.string ⟨JM.toArray⟩) ∧ Below w0.heap.size w0 w') := Lib.hid fun v' b w0 hv => hJM ▸ join_call M ⟨#[44]⟩ v' b w0 hv (by omega) (by show (Lib.join M [44]).length ≤ _; rw [hJM]; omega)
  have CJK : Hid (∀ (v' : Value) (b : Nat) (w0 : World), StrL w0 b v' K → Calls Tryd.prog 18 #[v', .string ⟨#[44]⟩] w0 fun e w' => e = .returned (.string ⟨JK.toArray⟩) ∧ Below w0.heap.size w0 w') := Lib.hid fun v' b w0 hv => hJK ▸ join_call K ⟨#[44]⟩ v' b w0 hv (by omega) (by show (Lib.join K [44]).length ≤ _; rw [hJK]; omega)
  obtain ⟨TX, hTX⟩ : ∃ x, textL c = x := ⟨_, rfl⟩
  have hTJ : Lib.join [W0, W1, JM, W2, JK] [32] = TX := by rw [← hTX, ← hW0, ← hW1, ← hW2, ← hJM, ← hJK, ← hM, ← hK]; rfl
  have CJT : Hid (∀ (v' : Value) (b : Nat) (w0 : World), StrL w0 b v' [W0, W1, JM, W2, JK] → Calls Tryd.prog 18 #[v', .string ⟨#[32]⟩] w0 fun e w' => e = .returned (.string ⟨TX.toArray⟩) ∧ Below w0.heap.size w0 w') := Lib.hid fun v' b w0 hv => hTJ ▸ join_call [W0, W1, JM, W2, JK] ⟨#[32]⟩ v' b w0 hv (by simp) (by
    show (Lib.join [W0, W1, JM, W2, JK] [32]).length ≤ _
    simp [Lib.join, List.intercalate]
    omega)
  have HML : Hid (M = if c.any then [[42]] else L46 ++ (if c.la then [[76]] else [])) := Lib.hid (by rw [← hM, ← hL46, ← hL4, ← hL6]; rfl)
  have HKL : Hid (K = if c.aw then [[42]] else L89 ++ nthL c.nt) := Lib.hid (by rw [← hK, ← hL89, ← hL8, ← hL9]; rfl)
  have HNT := Lib.hid hg.nt
  have HPN := Lib.hid h.nt
  have HMn := Lib.hid hMn
  have HKn := Lib.hid hKn
  rw [hTX]
  have HNE := Lib.hid hN46
  have HNF := Lib.hid hN89
  clear hN46 hN89 hL46 hL89 hTX hTJ hJM hJK hM hK hW0 hW1 hW2 hL4 hL6 hL8 hL9 hMn hKn hjm hjk hw0 hw1 hw2 h hz hok hg
  obtain ⟨o0, p0, hv0, -, -⟩ := id HR.out.mi
  obtain ⟨n0, hn0⟩ : ∃ n, c.mi.length = n := ⟨_, rfl⟩
  rw [hn0] at hv0
  subst hv0
  obtain ⟨o1, p1, hv1, -, -⟩ := id HR.out.ho
  obtain ⟨n1, hn1⟩ : ∃ n, c.ho.length = n := ⟨_, rfl⟩
  rw [hn1] at hv1
  subst hv1
  obtain ⟨o2, p2, hv2, -, -⟩ := id HR.out.mo
  obtain ⟨n2, hn2⟩ : ∃ n, c.mo.length = n := ⟨_, rfl⟩
  rw [hn2] at hv2
  subst hv2
  obtain ⟨o4, p4, hv4, -, -⟩ := id HR.out.da
  obtain ⟨n4, hn4⟩ : ∃ n, c.da.length = n := ⟨_, rfl⟩
  rw [hn4] at hv4
  subst hv4
  obtain ⟨o6, p6, hv6, -, -⟩ := id HR.out.ne
  obtain ⟨n6, hn6⟩ : ∃ n, c.ne.length = n := ⟨_, rfl⟩
  rw [hn6] at hv6
  subst hv6
  obtain ⟨o8, p8, hv8, -, -⟩ := id HR.out.wd
  obtain ⟨n8, hn8⟩ : ∃ n, c.wd.length = n := ⟨_, rfl⟩
  rw [hn8] at hv8
  subst hv8
  obtain ⟨o9, p9, hv9, -, -⟩ := id HR.out.lo
  obtain ⟨n9, hn9⟩ : ∃ n, c.lo.length = n := ⟨_, rfl⟩
  rw [hn9] at hv9
  subst hv9
  obtain ⟨o10, p10, hv10, -, -⟩ := id HR.out.nt
  obtain ⟨n10, hn10⟩ : ∃ n, c.nt.length = n := ⟨_, rfl⟩
  rw [hn10] at hv10
  subst hv10
  clear HR
  obtain ⟨A, hA⟩ : ∃ x, c.any = x := ⟨_, rfl⟩
  obtain ⟨La, hLa⟩ : ∃ x, c.la = x := ⟨_, rfl⟩
  obtain ⟨Aw, hAw⟩ : ∃ x, c.aw = x := ⟨_, rfl⟩
  obtain ⟨nt, hnt⟩ : ∃ x, c.nt = x := ⟨_, rfl⟩
  rw [hnt] at HNT HPN HKL hn10
  rw [hA, hLa] at HML
  rw [hAw] at HKL
  unfold cronV at CK ⊢
  rw [hA, hLa, hAw] at CK ⊢
  clear hA hLa hAw hnt hn0 hn1 hn2 hn4 hn6 hn8 hn9 HG
  have HN10 := Lib.hid hn10
  clear hn10
  obtain ⟨wB, hwB⟩ : ∃ x, w.alloc (.cells #[.slice o0 n0 p0, .slice o1 n1 p1, .slice o2 n2 p2, .bool A, .slice o4 n4 p4, .bool La, .slice o6 n6 p6, .bool Aw, .slice o8 n8 p8, .slice o9 n9 p9, .slice o10 n10 p10] 25) = x := ⟨_, rfl⟩
  have HBB : Hid (Below w.heap.size w wB) := Lib.hid (by rw [← hwB]; exact (Below.refl _ _).alloc (Nat.le_refl _) _)
  have hsz : wB.heap.size = w.heap.size + 1 := by rw [← hwB]; simp
  have hlt : w.heap.size < wB.heap.size := by omega
  have q0 : wB.cell? ⟨w.heap.size, 0, none⟩ = some (.slice o0 n0 p0) := by rw [← hwB]; simp
  have q1 : wB.cell? ⟨w.heap.size, 1, none⟩ = some (.slice o1 n1 p1) := by rw [← hwB]; simp
  have q2 : wB.cell? ⟨w.heap.size, 2, none⟩ = some (.slice o2 n2 p2) := by rw [← hwB]; simp
  have q3 : wB.cell? ⟨w.heap.size, 3, none⟩ = some (.bool A) := by rw [← hwB]; simp
  have q4 : wB.cell? ⟨w.heap.size, 4, none⟩ = some (.slice o4 n4 p4) := by rw [← hwB]; simp
  have q5 : wB.cell? ⟨w.heap.size, 5, none⟩ = some (.bool La) := by rw [← hwB]; simp
  have q6 : wB.cell? ⟨w.heap.size, 6, none⟩ = some (.slice o6 n6 p6) := by rw [← hwB]; simp
  have q7 : wB.cell? ⟨w.heap.size, 7, none⟩ = some (.bool Aw) := by rw [← hwB]; simp
  have q8 : wB.cell? ⟨w.heap.size, 8, none⟩ = some (.slice o8 n8 p8) := by rw [← hwB]; simp
  have q9 : wB.cell? ⟨w.heap.size, 9, none⟩ = some (.slice o9 n9 p9) := by rw [← hwB]; simp
  have q10 : wB.cell? ⟨w.heap.size, 10, none⟩ = some (.slice o10 n10 p10) := by rw [← hwB]; simp
  have HwB := Lib.hid hwB
  have HSZ := Lib.hid hsz
  clear hwB hsz
  have HQ0 := Lib.hid q0
  have HQ1 := Lib.hid q1
  have HQ2 := Lib.hid q2
  have HQ3 := Lib.hid q3
  have HQ4 := Lib.hid q4
  have HQ5 := Lib.hid q5
  have HQ6 := Lib.hid q6
  have HQ7 := Lib.hid q7
  have HQ8 := Lib.hid q8
  have HQ9 := Lib.hid q9
  have HQ10 := Lib.hid q10
  have HB0 := Lib.hid ((Below.refl w.heap.size w).alloc (Nat.le_refl _) (.cells #[.slice o0 n0 p0, .slice o1 n1 p1, .slice o2 n2 p2, .bool A, .slice o4 n4 p4, .bool La, .slice o6 n6 p6, .bool Aw, .slice o8 n8 p8, .slice o9 n9 p9, .slice o10 n10 p10] 25))
  clear q0 q1 q2 q3 q4 q5 q6 q7 q8 q9 q10
  go_enter Tryd.func8, Tryd.ntmps8
  go_upto_if 18 with (go_at_call 14; refine Calls.mono (by with_reducible exact CK.out _ HB0.out) ?_; rintro e w1 ⟨rfl, hb1⟩; rw [HwB.out] at hb1; have HB1 := Lib.hid hb1; have c3 := (hb1.cell (p := ⟨w.heap.size, 3, none⟩) hlt).trans HQ3.out; have hl1 := Nat.lt_of_lt_of_le hlt hb1.size; clear hb1)
  obtain ⟨wA, hwA⟩ : ∃ x, (w1.alloc (Obj.cells #[Value.string ⟨#[42]⟩] 9)).alloc (Obj.cells #[Value.string ⟨#[42]⟩] 9) = x := ⟨_, rfl⟩
  have HA : Hid (Below wB.heap.size wB wA) := Lib.hid (by rw [← hwA]; exact (HB1.out.alloc HB1.out.size _).alloc (by have := HB1.out.size; simp; omega) _)
  have HS5 : Hid (StrL wA wB.heap.size (.slice (some ⟨w1.heap.size, 0, none⟩) 1 1) [[42]]) := Lib.hid (by rw [← hwA]; exact (strL_lit w1 [[42]] wB.heap.size HB1.out.size (by decide)).alloc _)
  have HS6 : Hid (StrL wA wB.heap.size (.slice (some ⟨w1.heap.size + 1, 0, none⟩) 1 1) [[42]]) := Lib.hid (by rw [← hwA]; have := strL_lit (w1.alloc (Obj.cells #[Value.string ⟨#[42]⟩] 9)) [[42]] wB.heap.size (by have := HB1.out.size; simp; omega) (by decide); rw [World.size_alloc] at this; exact this)
  rw [hwA]
  have hlA := Nat.lt_of_lt_of_le hlt HA.out.size
  clear hwA c3 hl1
  obtain ⟨Z5, hZ5⟩ : ∃ x, Value.slice (some ⟨w1.heap.size, 0, none⟩) 1 1 = x := ⟨_, rfl⟩
  obtain ⟨Z6, hZ6⟩ : ∃ x, Value.slice (some ⟨w1.heap.size + 1, 0, none⟩) 1 1 = x := ⟨_, rfl⟩
  rw [hZ5] at HS5 ⊢
  rw [hZ6] at HS6 ⊢
  have HZ6 : Hid (∀ q, Z6.ownBlock = some q → q < wA.heap.size) := Lib.hid fun q hq => (HS6.out.lt q hq).2
  clear hZ5 hZ6 HB1 HB0
  obtain ⟨i0, hi0, hz0, hz1, hz2⟩ := info_parts str_info
  go_cut [0, 5, 6] from 7 (fun _ s5 s6 wx => Hid (Below wB.heap.size wB wx) ∧ Hid (StrL wx wB.heap.size s5 M) ∧ Hid (StrL wx wB.heap.size s6 [[42]]))
  case first =>
    cases A with
    | true =>
      have HM : Hid (StrL wA wB.heap.size Z5 M) := Lib.hid (by rw [HML.out]; exact HS5.out)
      go_wp2_with fail
      go_meet
      case rel => exact ⟨HA, HM, HS6⟩
    | false =>
      go_upto_region 6 with fail
      have c4 := (HA.out.cell (p := ⟨w.heap.size, 4, none⟩) hlt).trans HQ4.out
      have S46 : Hid (∀ wx, Below wB.heap.size wB wx → wx.cell? ⟨w.heap.size, 4, none⟩ = some (.slice o4 n4 p4) ∧ wx.cell? ⟨w.heap.size, 6, none⟩ = some (.slice o6 n6 p6)) := Lib.hid fun wx hb => ⟨(hb.cell (p := ⟨w.heap.size, 4, none⟩) hlt).trans HQ4.out, (hb.cell (p := ⟨w.heap.size, 6, none⟩) hlt).trans HQ6.out⟩
      have HX := Lib.hid (below_drew HA.out)
      replace HS6 := Lib.hid (show StrL wA.drew wB.heap.size Z6 [[42]] from HS6.out)
      have HW := Lib.hid (below_drew (Below.refl w.heap.size w))
      clear c4
      go_region_held3 (fun w' => w'.cell? ⟨w.heap.size, 4, none⟩ = some (.slice o4 n4 p4) ∧ w'.cell? ⟨w.heap.size, 6, none⟩ = some (.slice o6 n6 p6)) (first | exact S46.out _ HX.out | exact S46.out _ (HX.out.alloc HX.out.size _))
       (first
        | (go_at_call 17; (with_reducible refine (CT4.out _ (HBB.out.trans (HX.out.mono HBB.out.size))).mono ?_); rintro e w2 ⟨v2, rfl, h2, hb2⟩; have z2 : wA.heap.size ≤ w2.heap.size := hb2.size; obtain ⟨x2, y2, rfl⟩ := h2.form; have H2 := Lib.hid h2; replace HX := Lib.hid (HX.out.trans (hb2.mono HX.out.size)); replace HS6 := Lib.hid (HS6.out.call hb2); clear h2 hb2; try dsimp only)
        | (go_at_call 17; (with_reducible refine (CT6.out _ (HBB.out.trans (HX.out.mono HBB.out.size))).mono ?_); rintro e w3 ⟨v3, rfl, h3, hb3⟩; have z3 := hb3.size; obtain ⟨x3, y3, rfl⟩ := h3.form; have H3 := Lib.hid h3; replace H2 := Lib.hid (H2.out.call hb3); replace HX := Lib.hid (HX.out.trans (hb3.mono HX.out.size)); replace HS6 := Lib.hid (HS6.out.call hb3); clear h3 hb3; try dsimp only)
        | (go_at_call 16; refine (CC46.out _ w3.heap.size _ _ _ _ (H2.out.alloc _) (H3.out.alloc _) (by simp) (by simp)).mono ?_; rintro e w4 ⟨x4, y4, rfl, h4, hb4⟩; have HD : Hid (∀ q, (Value.slice x4 N46 y4).ownBlock = some q → wA.heap.size ≤ q) := Lib.hid (fun q hq => by have := (h4.lt q hq).1; simp at this; omega); have H4 := Lib.hid (h4.mono (show wB.heap.size ≤ _ by have := HX.out.size; simp; omega)); replace HX := Lib.hid ((HX.out.alloc HX.out.size _).trans (hb4.mono (by have := HX.out.size; simp; omega))); replace HS6 := Lib.hid ((HS6.out.alloc _).call hb4); clear h4 hb4 H2 H3; try dsimp only))
      have c5 := (HX.out.cell (p := ⟨w.heap.size, 5, none⟩) hlt).trans HQ5.out
      have hl4 := Nat.lt_of_lt_of_le hlt HX.out.size
      cases La with
      | true =>
        go_wp2_with (at_builtin; refine wpList_append_own _ rfl (.tmp 29) (.tmp 30) 45 rfl wB.heap.size 9 i0 (.string ⟨#[]⟩) 1 16 Tryd.underlying45 hi0 hz0 hz1 hz2 rfl (by decide) _ N46 (strV L46) rfl (H4.out.alloc _) _ 1 1 [.string ⟨#[76]⟩] rfl rfl (cells_at (by simp) _ _) (by simp [Value.oneCell']) (by unfold maxLen; omega) (by omega) (by have := HX.out.size; simp; omega) ?_; intro v5 w5 hown hgrow _)
        have HM : Hid (StrL w5 wB.heap.size v5 M) := Lib.hid (by unfold StrL; rw [HML.out]; simp only [Bool.false_eq_true, if_false, if_true, List.length_append, HNE.out, strV_app]; exact hown)
        have HB5 : Hid (Below wB.heap.size wB w5) := Lib.hid ((HX.out.alloc HX.out.size _).grown hgrow (by have := HX.out.size; simp; omega) (fun q hq => (H4.out.lt q hq).1))
        have HS : Hid (StrL w5 wB.heap.size Z6 [[42]]) := Lib.hid (World.ownsRow.kept (HS6.out.alloc _) hgrow (by
          rcases hq : Z6.ownBlock with _ | q
          · exact .inl rfl
          · refine .inr (fun he => ?_)
            have h1 := HD.out q he.symm
            have h2 := HZ6.out q hq
            omega))
        clear hown hgrow
        go_wp2_with fail
        go_meet
        case rel => exact ⟨HB5, HM, HS⟩
      | false =>
        have HM : Hid (StrL w4 wB.heap.size (.slice x4 N46 y4) M) := Lib.hid (by unfold StrL; rw [HML.out]; simp only [Bool.false_eq_true, if_false, List.append_nil, HNE.out]; exact H4.out)
        go_wp2_with fail
        go_meet
        case rel => exact ⟨HX, HM, HS6⟩
  case rest =>
    obtain ⟨HA2, HM5, HS6'⟩ := hcut
    clear HS5 HS6 HA hlA HZ6
    have c7 := (HA2.out.cell (p := ⟨w.heap.size, 7, none⟩) hlt).trans HQ7.out
    have hlc := Nat.lt_of_lt_of_le hlt HA2.out.size
    go_upto_if 34 with fail
    go_cut [0, 5, 6] from 7 (fun _ s5 s6 wx => Hid (Below wB.heap.size wB wx) ∧ Hid (StrL wx wB.heap.size s5 M) ∧ Hid (StrL wx wB.heap.size s6 K))
    case first =>
      cases Aw with
      | true =>
        have HK : Hid (StrL wc wB.heap.size u6 K) := Lib.hid (by rw [HKL.out]; exact HS6'.out)
        go_wp2_with fail
        go_meet
        case rel => exact ⟨HA2, HM5, HK⟩
      | false =>
        go_upto_region 10 with fail
        have S89 : Hid (∀ wx, Below wB.heap.size wB wx → wx.cell? ⟨w.heap.size, 8, none⟩ = some (.slice o8 n8 p8) ∧ wx.cell? ⟨w.heap.size, 9, none⟩ = some (.slice o9 n9 p9)) := Lib.hid fun wx hb => ⟨(hb.cell (p := ⟨w.heap.size, 8, none⟩) hlt).trans HQ8.out, (hb.cell (p := ⟨w.heap.size, 9, none⟩) hlt).trans HQ9.out⟩
        have HX := Lib.hid (below_drew HA2.out)
        have HZ5 : Hid (∀ q, u5.ownBlock = some q → q < wc.heap.size) := Lib.hid fun q hq => (HM5.out.lt q hq).2
        replace HM5 := Lib.hid HM5.out.drew
        clear c7 HS6'
        go_region_held3 (fun w' => w'.cell? ⟨w.heap.size, 8, none⟩ = some (.slice o8 n8 p8) ∧ w'.cell? ⟨w.heap.size, 9, none⟩ = some (.slice o9 n9 p9)) (first | exact S89.out _ HX.out | exact S89.out _ (HX.out.alloc HX.out.size _))
         (first
          | (go_at_call 17; (with_reducible refine (CT8.out _ (HBB.out.trans (HX.out.mono HBB.out.size))).mono ?_); rintro e w2 ⟨v2, rfl, h2, hb2⟩; have z2 : wc.heap.size ≤ w2.heap.size := hb2.size; obtain ⟨x2, y2, rfl⟩ := h2.form; have H2 := Lib.hid h2; replace HX := Lib.hid (HX.out.trans (hb2.mono HX.out.size)); replace HM5 := Lib.hid (HM5.out.call hb2); clear h2 hb2; try dsimp only)
          | (go_at_call 17; (with_reducible refine (CT9.out _ (HBB.out.trans (HX.out.mono HBB.out.size))).mono ?_); rintro e w3 ⟨v3, rfl, h3, hb3⟩; have z3 := hb3.size; obtain ⟨x3, y3, rfl⟩ := h3.form; have H3 := Lib.hid h3; replace H2 := Lib.hid (H2.out.call hb3); replace HX := Lib.hid (HX.out.trans (hb3.mono HX.out.size)); replace HM5 := Lib.hid (HM5.out.call hb3); clear h3 hb3; try dsimp only)
          | (go_at_call 16; refine (CC89.out _ w3.heap.size _ _ _ _ (H2.out.alloc _) (H3.out.alloc _) (by simp) (by simp)).mono ?_; rintro e w4 ⟨x4, y4, rfl, h4, hb4⟩; have z4 := hb4.size; have HD : Hid (∀ q, (Value.slice x4 N89 y4).ownBlock = some q → wc.heap.size ≤ q) := Lib.hid (fun q hq => by have := (h4.lt q hq).1; simp at this; omega); have H4 := Lib.hid (h4.mono (show wc.heap.size ≤ _ by simp; omega)); replace HX := Lib.hid ((HX.out.alloc HX.out.size _).trans (hb4.mono (by have := HX.out.size; simp; omega))); replace HM5 := Lib.hid ((HM5.out.alloc _).call hb4); clear h4 hb4 H2 H3; try dsimp only))
        have c10 := (HX.out.cell (p := ⟨w.heap.size, 10, none⟩) hlt).trans HQ10.out
        have hl4 := Nat.lt_of_lt_of_le hlt HX.out.size
        have zc : wc.heap.size ≤ w4.heap.size := by have := z4; simp at this; omega
        have hnl10 : n10 ≤ 100 := by rw [← HN10.out]; exact nth_len HNT.out
        go_wp2_with fail
        go_loopw [6, 46] (fun v c wr => ∃ (ob : Option Addr) (k cap2 : Nat), v = .slice ob (N89 + k) cap2 ∧ c = .int .i64 (k : Int) ∧ k ≤ n10 ∧ wc.heap.size ≤ wr.heap.size ∧ Hid (World.ownsRow wr wc.heap.size 9 1 (.slice ob (N89 + k) cap2) (N89 + k) (strV (L89 ++ nthL (nt.take k)))) ∧ Hid (StrL wr wB.heap.size u5 M) ∧ Hid (Below wB.heap.size wB wr)) (fun _ c _ => n10 - (intOf c).toNat)
        case atStart => exact ⟨x4, 0, y4, rfl, rfl, by omega, zc, Lib.hid (by have := H4.out; simpa [nthL] using this), HM5, HX⟩
        case round =>
          obtain ⟨ob, k, cap2, rfl, rfl, hk, hzr, HS, HMr, HBr⟩ := hrel
          obtain ⟨wA', rfl⟩ : ∃ wo : World, wo = wr := ⟨_, rfl⟩
          by_cases hkn : k < n10
          · have hkl : k < nt.length := by rw [HN10.out]; exact hkn
            obtain ⟨ad, rfl, hc1, hc2⟩ := (HPN.out.call (HBB.out.trans (HBr.out.mono HBB.out.size))).at hkl
            have hNA := nth_at HNT.out k hkl
            unfold NthAt at hNA
            have HSN := Lib.hid (nth_snoc nt k hkl)
            obtain ⟨N, hN⟩ : ∃ x, (nt.getD k (0, 0)).1 = x := ⟨_, rfl⟩
            obtain ⟨Y, hY⟩ : ∃ x, (nt.getD k (0, 0)).2 = x := ⟨_, rfl⟩
            rw [hN] at hc1 HSN hNA
            rw [hY] at hc2 HSN hNA
            obtain ⟨g1, g2, g3, g4, -⟩ := hNA
            clear hN hY hkl
            obtain ⟨SN, hSN⟩ : ∃ M : ByteArray, (⟨(numL N).toArray⟩ : ByteArray) = M := ⟨_, rfl⟩
            obtain ⟨SY, hSY⟩ : ∃ M : ByteArray, (⟨(numL Y).toArray⟩ : ByteArray) = M := ⟨_, rfl⟩
            have CN : Hid (∀ w0, Calls Tryd.prog 13 #[.int .i64 N] w0 fun e w' => e = .returned (.string SN) ∧ w0 = w') := Lib.hid fun w0 => hSN ▸ itoa_any N w0 (by omega) (by omega)
            have CY : Hid (∀ w0, Calls Tryd.prog 13 #[.int .i64 Y] w0 fun e w' => e = .returned (.string SY) ∧ w0 = w') := Lib.hid fun w0 => hSY ▸ itoa_any Y w0 (by omega) (by omega)
            have lSN : SN.size ≤ 2 := by rw [Lib.size_eq, ← hSN]; exact numL_len N (by omega)
            have lSY : SY.size ≤ 2 := by rw [Lib.size_eq, ← hSY]; exact numL_len Y (by omega)
            have HTX : Hid ((⟨(numL Y ++ [35] ++ numL N).toArray⟩ : ByteArray) = SY ++ (⟨#[35]⟩ : ByteArray) ++ SN) := Lib.hid (by
              have e : (SY ++ (⟨#[35]⟩ : ByteArray) ++ SN).data.toList = numL Y ++ [35] ++ numL N := by rw [ByteArray.data_append, Array.toList_append, ByteArray.data_append, Array.toList_append, ← hSN, ← hSY]
              rw [← e])
            obtain ⟨wX, hwX⟩ : ∃ x, wA'.alloc (.cells #[.int .i64 N, .int .i64 Y] 42) = x := ⟨_, rfl⟩
            have x0 : wX.cell? ⟨wA'.heap.size, 0, none⟩ = some (.int .i64 N) := by rw [← hwX]; simp
            have x1 : wX.cell? ⟨wA'.heap.size, 1, none⟩ = some (.int .i64 Y) := by rw [← hwX]; simp
            have HXA : Hid (Below wA'.heap.size wA' wX) := Lib.hid (by rw [← hwX]; exact (Below.refl _ _).alloc (Nat.le_refl _) _)
            have HwX := Lib.hid hwX
            clear hwX hSN hSY g1 g2 g3 g4
            have s0 := cell_regrown x0
            have s1 := cell_regrown x1
            go_wp2_with fail
            rw [HwX.out]
            have HXX := Lib.hid (below_drew HXA.out)
            have HXc : Hid (wX.drew.cell? ⟨wA'.heap.size, 0, none⟩ = some (.int .i64 N) ∧ wX.drew.cell? ⟨wA'.heap.size, 1, none⟩ = some (.int .i64 Y)) := Lib.hid ⟨x0, x1⟩
            have HS5 := Lib.hid (row_call HS.out HXX.out)
            have zz := HXA.out.size
            have HI0 : Hid ((wX.cell? ⟨wA'.heap.size, 0, none⟩).isSome = true) := Lib.hid (by rw [x0]; rfl)
            have HI1 : Hid ((wX.cell? ⟨wA'.heap.size, 1, none⟩).isSome = true) := Lib.hid (by rw [x1]; rfl)
            have HNQ : Hid (∀ q, (Value.slice ob (N89 + k) cap2).ownBlock = some q → q ≠ wA'.heap.size) := Lib.hid fun q hq => Nat.ne_of_lt (HS.out.lt q hq).2
            have q1 : ¬ 9223372036854775807 < SY.size + 1 := by omega
            have q2 : ¬ 9223372036854775807 ≤ SY.size := by omega
            have q3 : ¬ 9223372036854775807 < SY.size + 1 + SN.size := by omega
            have q4 : ¬ 9223372036854775806 < SY.size + SN.size := by omega
            clear s0 s1 x0 x1
            go_region_held3 (fun w' => w'.cell? ⟨wA'.heap.size, 0, none⟩ = some (.int .i64 N) ∧ w'.cell? ⟨wA'.heap.size, 1, none⟩ = some (.int .i64 Y)) (first | exact HXc.out | exact ⟨(World.cell?_alloc_some _ _ _ HI0.out).trans HXc.out.1, (World.cell?_alloc_some _ _ _ HI1.out).trans HXc.out.2⟩)
             (first
              | (go_at_call 13; (with_reducible refine (CY.out _).mono ?_); rintro e w' ⟨rfl, rfl⟩; try dsimp only)
              | (go_at_call 13; (with_reducible refine (CN.out _).mono ?_); rintro e w' ⟨rfl, rfl⟩; try dsimp only)
              | (refine step_append_own rfl (.tmp 50) (.tmp 59) 45 rfl wc.heap.size 9 i0 (.string ⟨#[]⟩) 1 16 Tryd.underlying45 hi0 hz0 hz1 hz2 rfl (by decide) (.slice ob (N89 + k) cap2) (N89 + k) (strV (L89 ++ nthL (nt.take k))) (by simp [Act.eval]) (HS5.out.alloc _) ⟨wX.heap.size, 0, none⟩ 1 1 [.string (SY ++ (⟨#[35]⟩ : ByteArray) ++ SN)] (by simp [Act.eval]) rfl (cells_at (by simp) _ _) (by simp [Value.oneCell']) (by unfold maxLen; omega) (by omega) (by simp; omega) ?_; intro v6 w6 hown hgrow _; replace HXc := Lib.hid (show w6.cell? ⟨wA'.heap.size, 0, none⟩ = some (.int .i64 N) ∧ w6.cell? ⟨wA'.heap.size, 1, none⟩ = some (.int .i64 Y) from ⟨hgrow.cell ((World.cell?_alloc_some _ _ _ HI0.out).trans HXc.out.1) (fun he => HNQ.out _ he.symm rfl), hgrow.cell ((World.cell?_alloc_some _ _ _ HI1.out).trans HXc.out.2) (fun he => HNQ.out _ he.symm rfl)⟩)))
            obtain ⟨g6, c6, hv6, _, _⟩ := hown.form (by omega)
            subst hv6
            have z6 := hgrow.size
            have HB6 : Hid (Below wB.heap.size wB w6) := Lib.hid (((HBr.out.trans (HXX.out.mono HBr.out.size)).alloc (Nat.le_trans HBr.out.size HXX.out.size) _).grown hgrow (by have := HBr.out.size; simp; omega) (fun q hq => Nat.le_trans HA2.out.size (HS5.out.lt q hq).1))
            have HM6 : Hid (StrL w6 wB.heap.size u5 M) := Lib.hid (World.ownsRow.kept ((HMr.out.call HXX.out).alloc _) hgrow (by
              rcases hq : u5.ownBlock with _ | q
              · exact .inl rfl
              · refine .inr (fun he => ?_)
                have h1 := (HS5.out.lt q he.symm).1
                have h2 := HZ5.out q hq
                omega))
            have HO6 : Hid (World.ownsRow w6 wc.heap.size 9 1 (.slice (some ⟨g6, 0, none⟩) (N89 + (k + 1)) c6) (N89 + (k + 1)) (strV (L89 ++ nthL (nt.take (k + 1))))) := Lib.hid (by rw [HSN.out, ← List.append_assoc, strV_snoc, HTX.out]; exact hown)
            have hz6 : wc.heap.size ≤ w6.heap.size := by simp at z6; omega
            clear hown hgrow z6
            go_wp2_with fail
            go_roundw
            case rel => exact ⟨some ⟨g6, 0, none⟩, k + 1, c6, rfl, by go_num, by omega, hz6, HO6, HM6, HB6⟩
            case measure => simp [intOf]; omega
          · obtain rfl : k = n10 := by omega
            have HF : Hid (StrL wA' wB.heap.size (.slice ob (N89 + k) cap2) K) := Lib.hid (by
              have h := HS.out.mono HA2.out.size
              rw [List.take_of_length_le (by rw [HN10.out]; exact Nat.le_refl _)] at h
              unfold StrL
              rw [HKL.out]
              simp only [Bool.false_eq_true, if_false, List.length_append, HNF.out, nthL, List.length_map, HN10.out]
              exact h)
            go_wp2_with fail
            go_meet
            case rel => exact ⟨HBr, HMr, HF⟩
    case rest =>
      clear HA2 HM5 HS6' c7 hlc
      obtain ⟨HA3, HM6, HK6⟩ := hcut
      go_upto_region 16 with fail
      have S012 : Hid (∀ wx, Below wB.heap.size wB wx → wx.cell? ⟨w.heap.size, 0, none⟩ = some (.slice o0 n0 p0) ∧ wx.cell? ⟨w.heap.size, 1, none⟩ = some (.slice o1 n1 p1) ∧ wx.cell? ⟨w.heap.size, 2, none⟩ = some (.slice o2 n2 p2)) := Lib.hid fun wx hb => ⟨(hb.cell (p := ⟨w.heap.size, 0, none⟩) hlt).trans HQ0.out, (hb.cell (p := ⟨w.heap.size, 1, none⟩) hlt).trans HQ1.out, (hb.cell (p := ⟨w.heap.size, 2, none⟩) hlt).trans HQ2.out⟩
      have HX := Lib.hid (below_drew HA3.out)
      replace HM6 := Lib.hid HM6.out.drew
      replace HK6 := Lib.hid HK6.out.drew
      go_region_held3 (fun w' => w'.cell? ⟨w.heap.size, 0, none⟩ = some (.slice o0 n0 p0) ∧ w'.cell? ⟨w.heap.size, 1, none⟩ = some (.slice o1 n1 p1) ∧ w'.cell? ⟨w.heap.size, 2, none⟩ = some (.slice o2 n2 p2)) (first | exact S012.out _ HX.out | exact S012.out _ (HX.out.alloc HX.out.size _))
       (first
        | (go_at_call 19; (with_reducible refine (CW0.out _ (HBB.out.trans (HX.out.mono HBB.out.size))).mono ?_); rintro e w20 ⟨rfl, hb⟩; replace HX := Lib.hid (HX.out.trans (hb.mono HX.out.size)); replace HM6 := Lib.hid (HM6.out.call hb); replace HK6 := Lib.hid (HK6.out.call hb); clear hb; try dsimp only)
        | (go_at_call 19; (with_reducible refine (CW1.out _ (HBB.out.trans (HX.out.mono HBB.out.size))).mono ?_); rintro e w21 ⟨rfl, hb⟩; replace HX := Lib.hid (HX.out.trans (hb.mono HX.out.size)); replace HM6 := Lib.hid (HM6.out.call hb); replace HK6 := Lib.hid (HK6.out.call hb); clear hb; try dsimp only)
        | (go_at_call 19; (with_reducible refine (CW2.out _ (HBB.out.trans (HX.out.mono HBB.out.size))).mono ?_); rintro e w23 ⟨rfl, hb⟩; replace HX := Lib.hid (HX.out.trans (hb.mono HX.out.size)); replace HM6 := Lib.hid (HM6.out.call hb); replace HK6 := Lib.hid (HK6.out.call hb); clear hb; try dsimp only)
        | (go_at_call 18; (with_reducible refine (CJM.out _ _ _ HM6.out).mono ?_); rintro e w22 ⟨rfl, hb⟩; replace HX := Lib.hid (HX.out.trans (hb.mono HX.out.size)); replace HK6 := Lib.hid (HK6.out.call hb); replace HM6 := Lib.hid (HM6.out.call hb); clear hb; try dsimp only)
        | (go_at_call 18; (with_reducible refine (CJK.out _ _ _ HK6.out).mono ?_); rintro e w24 ⟨rfl, hb⟩; replace HX := Lib.hid (HX.out.trans (hb.mono HX.out.size)); clear hb; try dsimp only)
        | (go_at_call 18; refine (CJT.out _ wB.heap.size _ (strL_lit w24 [W0, W1, JM, W2, JK] wB.heap.size HX.out.size (by simp))).mono ?_; rintro e w25 ⟨rfl, hb⟩; replace HX := Lib.hid ((HX.out.alloc HX.out.size _).trans (hb.mono (by have := HX.out.size; simp; omega))); clear hb; try dsimp only))
      go_wp2_with fail
      go_ret2
      exact ⟨rfl, HBB.out.trans (HX.out.mono HBB.out.size)⟩
set_option maxHeartbeats 4000000 in
theorem text_bad (c : Cron) (v0 v1 v2 v4 v6 v8 v9 v10 : Value) (w : World) (h : CronR w c v0 v1 v2 v4 v6 v8 v9 v10) (hz : CronZ c) (hok : c.ok = false) :
    Calls Tryd.prog 8 #[cronV c v0 v1 v2 v4 v6 v8 v9 v10] w fun e w' => e = .returned (.tuple #[.string ⟨#[]⟩, errV 1]) ∧ Below w.heap.size w w' := by
  have CK : Hid (∀ w0, Below w.heap.size w w0 → Calls Tryd.prog 14 #[cronV c v0 v1 v2 v4 v6 v8 v9 v10] w0 fun e w' => e = .returned (errV 1) ∧ Below w0.heap.size w0 w') := Lib.hid fun w0 hb => by
    have k := check_any c _ _ _ _ _ _ _ _ w0 (h.call hb) hz
    rw [hok] at k
    exact k
  obtain ⟨E, hE, hne⟩ : ∃ E : Value, errV 1 = E ∧ errV 1 = .iface 26 (.int .i64 1) := ⟨_, rfl, errV_hit (by decide)⟩
  rw [hne] at CK ⊢
  clear hE hne
  obtain ⟨o0, p0, hv0, -, -⟩ := id h.mi
  obtain ⟨n0, hn0⟩ : ∃ n, c.mi.length = n := ⟨_, rfl⟩
  rw [hn0] at hv0
  subst hv0
  obtain ⟨o1, p1, hv1, -, -⟩ := id h.ho
  obtain ⟨n1, hn1⟩ : ∃ n, c.ho.length = n := ⟨_, rfl⟩
  rw [hn1] at hv1
  subst hv1
  obtain ⟨o2, p2, hv2, -, -⟩ := id h.mo
  obtain ⟨n2, hn2⟩ : ∃ n, c.mo.length = n := ⟨_, rfl⟩
  rw [hn2] at hv2
  subst hv2
  obtain ⟨o4, p4, hv4, -, -⟩ := id h.da
  obtain ⟨n4, hn4⟩ : ∃ n, c.da.length = n := ⟨_, rfl⟩
  rw [hn4] at hv4
  subst hv4
  obtain ⟨o6, p6, hv6, -, -⟩ := id h.ne
  obtain ⟨n6, hn6⟩ : ∃ n, c.ne.length = n := ⟨_, rfl⟩
  rw [hn6] at hv6
  subst hv6
  obtain ⟨o8, p8, hv8, -, -⟩ := id h.wd
  obtain ⟨n8, hn8⟩ : ∃ n, c.wd.length = n := ⟨_, rfl⟩
  rw [hn8] at hv8
  subst hv8
  obtain ⟨o9, p9, hv9, -, -⟩ := id h.lo
  obtain ⟨n9, hn9⟩ : ∃ n, c.lo.length = n := ⟨_, rfl⟩
  rw [hn9] at hv9
  subst hv9
  obtain ⟨o10, p10, hv10, -, -⟩ := id h.nt
  obtain ⟨n10, hn10⟩ : ∃ n, c.nt.length = n := ⟨_, rfl⟩
  rw [hn10] at hv10
  subst hv10
  obtain ⟨A, hA⟩ : ∃ x, c.any = x := ⟨_, rfl⟩
  obtain ⟨La, hLa⟩ : ∃ x, c.la = x := ⟨_, rfl⟩
  obtain ⟨Aw, hAw⟩ : ∃ x, c.aw = x := ⟨_, rfl⟩
  unfold cronV at CK ⊢
  rw [hA, hLa, hAw] at CK ⊢
  clear hA hLa hAw hn0 hn1 hn2 hn4 hn6 hn8 hn9 hn10 h hz hok
  have HB0 := Lib.hid ((Below.refl w.heap.size w).alloc (Nat.le_refl _) (.cells #[.slice o0 n0 p0, .slice o1 n1 p1, .slice o2 n2 p2, .bool A, .slice o4 n4 p4, .bool La, .slice o6 n6 p6, .bool Aw, .slice o8 n8 p8, .slice o9 n9 p9, .slice o10 n10 p10] 25))
  go_enter Tryd.func8, Tryd.ntmps8
  go_wp2_with (go_at_call 14; refine Calls.mono (by with_reducible exact CK.out _ HB0.out) ?_; rintro e w1 ⟨rfl, hb1⟩; have HB1 := Lib.hid (thenB HB0.out hb1); clear hb1)
  go_ret2
  exact ⟨rfl, HB1.out⟩
/-- What a Cron's text is, and its error. -/
def textO (c : Cron) : List UInt8 := if c.ok then textL c else []
set_option maxHeartbeats 4000000 in
theorem plainText_any (c : Cron) (v0 v1 v2 v4 v6 v8 v9 v10 : Value) (w : World) (hT : ErrT w) (h : CronR w c v0 v1 v2 v4 v6 v8 v9 v10) (hz : CronZ c) :
    Calls Tryd.prog 4 #[cronV c v0 v1 v2 v4 v6 v8 v9 v10] w fun e w' => e = .returned (.tuple #[.string ⟨(textO c).toArray⟩, .int .i64 (okN c.ok)]) ∧ Below w.heap.size w w' := by
  have HT := Lib.hid hT
  have C : Hid (∀ w0, Below w.heap.size w w0 → Calls Tryd.prog 8 #[cronV c v0 v1 v2 v4 v6 v8 v9 v10] w0 fun e w' => e = .returned (.tuple #[.string ⟨(textO c).toArray⟩, errV (okN c.ok)]) ∧ Below w0.heap.size w0 w') := Lib.hid fun w0 hb => by
    unfold textO okN
    rcases hok : c.ok with _ | _
    · exact text_bad c _ _ _ _ _ _ _ _ w0 (h.call hb) hz hok
    · exact text_good c _ _ _ _ _ _ _ _ w0 (h.call hb) hz hok
  obtain ⟨S, hS⟩ : ∃ S : ByteArray, (⟨(textO c).toArray⟩ : ByteArray) = S := ⟨_, rfl⟩
  obtain ⟨n, hn⟩ : ∃ n, okN c.ok = n := ⟨_, rfl⟩
  obtain ⟨E, hE⟩ : ∃ E, errV n = E := ⟨_, rfl⟩
  rw [hS, hn] at C ⊢
  rw [hE] at C
  have HE := Lib.hid hE
  obtain ⟨o0, p0, hv0, -, -⟩ := id h.mi
  obtain ⟨n0, hn0⟩ : ∃ n, c.mi.length = n := ⟨_, rfl⟩
  rw [hn0] at hv0
  subst hv0
  obtain ⟨o1, p1, hv1, -, -⟩ := id h.ho
  obtain ⟨n1, hn1⟩ : ∃ n, c.ho.length = n := ⟨_, rfl⟩
  rw [hn1] at hv1
  subst hv1
  obtain ⟨o2, p2, hv2, -, -⟩ := id h.mo
  obtain ⟨n2, hn2⟩ : ∃ n, c.mo.length = n := ⟨_, rfl⟩
  rw [hn2] at hv2
  subst hv2
  obtain ⟨o4, p4, hv4, -, -⟩ := id h.da
  obtain ⟨n4, hn4⟩ : ∃ n, c.da.length = n := ⟨_, rfl⟩
  rw [hn4] at hv4
  subst hv4
  obtain ⟨o6, p6, hv6, -, -⟩ := id h.ne
  obtain ⟨n6, hn6⟩ : ∃ n, c.ne.length = n := ⟨_, rfl⟩
  rw [hn6] at hv6
  subst hv6
  obtain ⟨o8, p8, hv8, -, -⟩ := id h.wd
  obtain ⟨n8, hn8⟩ : ∃ n, c.wd.length = n := ⟨_, rfl⟩
  rw [hn8] at hv8
  subst hv8
  obtain ⟨o9, p9, hv9, -, -⟩ := id h.lo
  obtain ⟨n9, hn9⟩ : ∃ n, c.lo.length = n := ⟨_, rfl⟩
  rw [hn9] at hv9
  subst hv9
  obtain ⟨o10, p10, hv10, -, -⟩ := id h.nt
  obtain ⟨n10, hn10⟩ : ∃ n, c.nt.length = n := ⟨_, rfl⟩
  rw [hn10] at hv10
  subst hv10
  obtain ⟨A, hA⟩ : ∃ x, c.any = x := ⟨_, rfl⟩
  obtain ⟨La, hLa⟩ : ∃ x, c.la = x := ⟨_, rfl⟩
  obtain ⟨Aw, hAw⟩ : ∃ x, c.aw = x := ⟨_, rfl⟩
  unfold cronV at C ⊢
  rw [hA, hLa, hAw] at C ⊢
  clear hA hLa hAw hn0 hn1 hn2 hn4 hn6 hn8 hn9 hn10 h hz hn hE hT hS
  have HB0 := Lib.hid ((Below.refl w.heap.size w).alloc (Nat.le_refl _) (.cells #[.slice o0 n0 p0, .slice o1 n1 p1, .slice o2 n2 p2, .bool A, .slice o4 n4 p4, .bool La, .slice o6 n6 p6, .bool Aw, .slice o8 n8 p8, .slice o9 n9 p9, .slice o10 n10 p10] 25))
  go_enter Tryd.func4, Tryd.ntmps4
  go_wp2_with (first
    | (go_at_call 8; refine Calls.mono (by with_reducible exact C.out _ HB0.out) ?_; rintro e w1 ⟨rfl, hb1⟩; have HB1 := Lib.hid (thenB HB0.out hb1); have HT1 := Lib.hid (HT.out.call HB1.out); clear hb1)
    | (go_at_call 9; rw [← HE.out]; refine (tell_any n _ HT1.out).mono ?_; rintro e w2 ⟨rfl, hb2⟩; have HB2 := Lib.hid (thenB HB1.out hb2); clear hb2))
  go_ret2
  exact ⟨rfl, HB2.out⟩
end Go.Proofs.YtdnbnpknmdcljaaDoor