/- PartParse. -/
import Derived.Test.YtidgahnamdhflaaDoorPsxR
import Derived.Test.YtidgahnamdhflaaDoorPsxK
import Derived.Test.YtidgahnamdhflaaDoorQTail
namespace Go.Proofs.YtidgahnamdhflaaDoor
open Go.RowKit Go.Shelf Fld Prt Psx
theorem fine_any (w : World) : Calls Tryd.prog 27 #[] w fun e w' => e = .returned (.agg #[.int .i64 0, .int .i64 (-1)]) ∧ Below w.heap.size w w' := by
  go_enter Tryd.func27, Tryd.ntmps27
  go_wp2
  refine bodyPost_ret (v := .agg #[.int .i64 0, .int .i64 (-1)]) (by simp [results, Tryd.results27, go_sem]) rfl ⟨rfl, ?_⟩
  exact (by repeat (first | exact Below.refl _ _ | (refine Below.setCell ?_ (by simp) _) | (refine Below.alloc ?_ (by simp <;> omega) _)))
theorem bad_any (x : Int) (w : World) : Calls Tryd.prog 24 #[.int .i64 x] w fun e w' => e = .returned (.agg #[.int .i64 x, .int .i64 (-1)]) ∧ Below w.heap.size w w' := by
  go_enter Tryd.func24, Tryd.ntmps24
  go_wp2
  refine bodyPost_ret (v := .agg #[.int .i64 x, .int .i64 (-1)]) (by simp [results, Tryd.results24, go_sem]) rfl ⟨rfl, ?_⟩
  exact (by repeat (first | exact Below.refl _ _ | (refine Below.setCell ?_ (by simp) _) | (refine Below.alloc ?_ (by simp <;> omega) _)))
/-- What PartParse answers. -/
def RPPost (R : Int × Int × Part) (w : World) (e : Ending) (w' : World) : Prop :=
  ∃ ou n c ov m d, e = .returned (.tuple #[.agg #[.string R.2.2.name, .slice ou n c, .slice ov m d], .agg #[.int .i64 R.1, .int .i64 R.2.1]]) ∧ QPart (fun b => w.heap.size ≤ b ∧ b < w'.heap.size) 8 w' (.slice ou n c) (.slice ov m d) R.2.2 ∧ Below w.heap.size w w'
/-- The two results' blocks, with nothing in them. -/
def Z5 (H : Nat) (x : World) : Prop :=
  H + 1 < x.heap.size ∧ Z3 H x ∧ x.cell? ⟨H + 1, 0, none⟩ = some (.int .i64 0) ∧ x.frozen? ⟨H + 1, 0, none⟩ = false ∧ x.cell? ⟨H + 1, 1, none⟩ = some (.int .i64 0) ∧ x.frozen? ⟨H + 1, 1, none⟩ = false
theorem Z5.keep {H : Nat} {x y : World} (h : Z5 H x) (hs : x.heap.size ≤ y.heap.size) (h1 : y.heap[H]? = x.heap[H]?) (h2 : y.heap[H + 1]? = x.heap[H + 1]?) : Z5 H y := by
  obtain ⟨a0, a1, a2, a3, a4, a5⟩ := h
  exact ⟨Nat.lt_of_lt_of_le a0 hs, a1.keep h1, (World.cell?_of_block (a := ⟨H + 1, 0, none⟩) h2).trans a2, (World.frozen?_of_block (a := ⟨H + 1, 0, none⟩) h2).trans a3, (World.cell?_of_block (a := ⟨H + 1, 1, none⟩) h2).trans a4, (World.frozen?_of_block (a := ⟨H + 1, 1, none⟩) h2).trans a5⟩
theorem Z5.call {H : Nat} {x y : World} (h : Z5 H x) (hb : Below x.heap.size x y) : Z5 H y := h.keep hb.size (hb.block _ (by have := h.1; omega)) (hb.block _ h.1)
theorem Z5.new (w : World) : Z5 w.heap.size ((w.alloc (.cells #[.string ⟨#[]⟩, .slice none 0 0, .slice none 0 0] 25)).alloc (.cells #[.int .i64 0, .int .i64 0] 34)) :=
  ⟨by simp, (z3_new w).keep (((Below.refl (w.alloc (.cells #[.string ⟨#[]⟩, .slice none 0 0, .slice none 0 0] 25)).heap.size (w.alloc (.cells #[.string ⟨#[]⟩, .slice none 0 0, .slice none 0 0] 25))).alloc (Nat.le_refl _) _).block _ (by simp)), by simp, by simp, by simp, by simp⟩
/-- The two results' blocks, filled. -/
def FillR (H : Nat) (x y : World) (c0 c1 c2 d0 d1 : Value) : Prop :=
  (y.cell? ⟨H, 0, none⟩ = some c0 ∧ y.cell? ⟨H, 1, none⟩ = some c1 ∧ y.cell? ⟨H, 2, none⟩ = some c2 ∧ y.cell? ⟨H + 1, 0, none⟩ = some d0 ∧ y.cell? ⟨H + 1, 1, none⟩ = some d1) ∧ Below H x y ∧ ∀ b, b < x.heap.size → b ≠ H → b ≠ H + 1 → y.heap[b]? = x.heap[b]?
theorem FillR.pre {H : Nat} {x x' y : World} {c0 c1 c2 d0 d1 : Value} (h : FillR H x' y c0 c1 c2 d0 d1) (hb : Below x.heap.size x x') (hH : H ≤ x.heap.size) : FillR H x y c0 c1 c2 d0 d1 :=
  ⟨h.1, (hb.mono hH).trans h.2.1, fun b h0 h1 h2 => (h.2.2 b (Nat.lt_of_lt_of_le h0 hb.size) h1 h2).trans (hb.block b h0)⟩
theorem FillR.drew {H : Nat} {x y : World} {c0 c1 c2 d0 d1 : Value} (h : FillR H x y c0 c1 c2 d0 d1) : FillR H x y.drew c0 c1 c2 d0 d1 := ⟨h.1, below_drew h.2.1, h.2.2⟩
section
variable {H : Nat} {x y : World} {c0 c1 c2 d0 d1 : Value}
theorem fill_p (h : Z3 H x) (hy : y = (((x.setCell ⟨H, 0, none⟩ c0).setCell ⟨H, 1, none⟩ c1).setCell ⟨H, 2, none⟩ c2)) : (y.cell? ⟨H, 0, none⟩ = some c0 ∧ y.cell? ⟨H, 1, none⟩ = some c1 ∧ y.cell? ⟨H, 2, none⟩ = some c2) ∧ Below H x y ∧ ∀ b, b ≠ H → y.heap[b]? = x.heap[b]? := by
  have h1 := h.fill hy
  refine ⟨⟨h1.1, h1.2.1, h1.2.2.1⟩, ?_, ?_⟩
  · subst hy; exact (((Below.refl _ _).setCell (p := ⟨H, 0, none⟩) (Nat.le_refl _) _).setCell (p := ⟨H, 1, none⟩) (Nat.le_refl _) _).setCell (p := ⟨H, 2, none⟩) (Nat.le_refl _) _
  · intro b hb; subst hy
    rw [Below.heap_setCell _ _ _ _ hb, Below.heap_setCell _ _ _ _ hb, Below.heap_setCell _ _ _ _ hb]
theorem fill_b {g0 g1 : Value} (k0 : x.cell? ⟨H + 1, 0, none⟩ = some g0) (k1 : x.cell? ⟨H + 1, 1, none⟩ = some g1) (hy : y = ((x.setCell ⟨H + 1, 0, none⟩ d0).setCell ⟨H + 1, 1, none⟩ d1)) : (y.cell? ⟨H + 1, 0, none⟩ = some d0 ∧ y.cell? ⟨H + 1, 1, none⟩ = some d1) ∧ Below H x y ∧ ∀ b, b ≠ H + 1 → y.heap[b]? = x.heap[b]? := by
  subst hy
  refine ⟨⟨?_, World.cell?_setCell_same _ _ _ (by rw [World.cell?_setCell_other _ _ _ _ (by simp)]; exact k1)⟩, ((Below.refl _ _).setCell (p := ⟨H + 1, 0, none⟩) (Nat.le_succ _) _).setCell (p := ⟨H + 1, 1, none⟩) (Nat.le_succ _) _, fun b hb => ?_⟩
  · rw [World.cell?_setCell_other _ _ _ _ (by simp)]; exact World.cell?_setCell_same _ _ _ k0
  · rw [Below.heap_setCell _ _ _ _ hb, Below.heap_setCell _ _ _ _ hb]
theorem fillA (h : Z5 H x) (hy : y = (((((x.setCell ⟨H, 0, none⟩ c0).setCell ⟨H, 1, none⟩ c1).setCell ⟨H, 2, none⟩ c2).setCell ⟨H + 1, 0, none⟩ d0).setCell ⟨H + 1, 1, none⟩ d1)) : FillR H x y c0 c1 c2 d0 d1 := by
  obtain ⟨a0, a1, a2, -, a4, -⟩ := h
  obtain ⟨p1, p2, p3⟩ := fill_p (c0 := c0) (c1 := c1) (c2 := c2) a1 rfl
  have k : ∀ i, (((x.setCell ⟨H, 0, none⟩ c0).setCell ⟨H, 1, none⟩ c1).setCell ⟨H, 2, none⟩ c2).cell? ⟨H + 1, i, none⟩ = x.cell? ⟨H + 1, i, none⟩ := fun i => World.cell?_of_block (a := ⟨H + 1, i, none⟩) (p3 (H + 1) (by omega))
  obtain ⟨q1, q2, q3⟩ := fill_b ((k 0).trans a2) ((k 1).trans a4) hy
  have k2 : ∀ i, y.cell? ⟨H, i, none⟩ = (((x.setCell ⟨H, 0, none⟩ c0).setCell ⟨H, 1, none⟩ c1).setCell ⟨H, 2, none⟩ c2).cell? ⟨H, i, none⟩ := fun i => World.cell?_of_block (a := ⟨H, i, none⟩) (q3 H (by omega))
  exact ⟨⟨(k2 0).trans p1.1, (k2 1).trans p1.2.1, (k2 2).trans p1.2.2, q1.1, q1.2⟩, p2.trans q2, fun b _ h1 h2 => (q3 b h2).trans (p3 b h1)⟩
theorem fillB (h : Z5 H x) (hy : y = (((((x.setCell ⟨H + 1, 0, none⟩ d0).setCell ⟨H + 1, 1, none⟩ d1).setCell ⟨H, 0, none⟩ c0).setCell ⟨H, 1, none⟩ c1).setCell ⟨H, 2, none⟩ c2)) : FillR H x y c0 c1 c2 d0 d1 := by
  obtain ⟨a0, a1, a2, -, a4, -⟩ := h
  obtain ⟨q1, q2, q3⟩ := fill_b (d0 := d0) (d1 := d1) a2 a4 rfl
  obtain ⟨p1, p2, p3⟩ := fill_p (a1.keep (q3 H (by omega))) hy
  have k2 : ∀ i, y.cell? ⟨H + 1, i, none⟩ = ((x.setCell ⟨H + 1, 0, none⟩ d0).setCell ⟨H + 1, 1, none⟩ d1).cell? ⟨H + 1, i, none⟩ := fun i => World.cell?_of_block (a := ⟨H + 1, i, none⟩) (p3 (H + 1) (by omega))
  exact ⟨⟨p1.1, p1.2.1, p1.2.2, (k2 0).trans q1.1, (k2 1).trans q1.2⟩, q2.trans p2, fun b _ h1 h2 => (p3 b h1).trans (q3 b h2)⟩
theorem fillC {x' : World} (h : Z5 H x) (hb : Below (((x.setCell ⟨H, 0, none⟩ c0).setCell ⟨H, 1, none⟩ c1).setCell ⟨H, 2, none⟩ c2).heap.size (((x.setCell ⟨H, 0, none⟩ c0).setCell ⟨H, 1, none⟩ c1).setCell ⟨H, 2, none⟩ c2) x') (hy : y = ((x'.setCell ⟨H + 1, 0, none⟩ d0).setCell ⟨H + 1, 1, none⟩ d1)) : FillR H x y c0 c1 c2 d0 d1 := by
  obtain ⟨a0, a1, a2, -, a4, -⟩ := h
  obtain ⟨p1, p2, p3⟩ := fill_p (c0 := c0) (c1 := c1) (c2 := c2) a1 rfl
  have hz : (((x.setCell ⟨H, 0, none⟩ c0).setCell ⟨H, 1, none⟩ c1).setCell ⟨H, 2, none⟩ c2).heap.size = x.heap.size := by simp [World.setCell]
  rw [hz] at hb
  have k : ∀ b, b < x.heap.size → b ≠ H → x'.heap[b]? = x.heap[b]? := fun b h1 h2 => (hb.block b h1).trans (p3 b h2)
  have kc : ∀ i, x'.cell? ⟨H + 1, i, none⟩ = x.cell? ⟨H + 1, i, none⟩ := fun i => World.cell?_of_block (a := ⟨H + 1, i, none⟩) (k (H + 1) a0 (by omega))
  obtain ⟨q1, q2, q3⟩ := fill_b ((kc 0).trans a2) ((kc 1).trans a4) hy
  have k2 : ∀ i, y.cell? ⟨H, i, none⟩ = (((x.setCell ⟨H, 0, none⟩ c0).setCell ⟨H, 1, none⟩ c1).setCell ⟨H, 2, none⟩ c2).cell? ⟨H, i, none⟩ := fun i => World.cell?_of_block (a := ⟨H, i, none⟩) ((q3 H (by omega)).trans (hb.block H (by omega)))
  exact ⟨⟨(k2 0).trans p1.1, (k2 1).trans p1.2.1, (k2 2).trans p1.2.2, q1.1, q1.2⟩, (p2.trans (hb.mono (by omega))).trans q2, fun b h0 h1 h2 => (q3 b h2).trans (k b h0 h1)⟩
end
theorem rp_none {R : Int × Int × Part} {w x y : World} {E pl : Int} (hR : R = (E, pl, part0)) (hb : Below w.heap.size w x) (h : FillR w.heap.size x y (.string ⟨#[]⟩) (.slice none 0 0) (.slice none 0 0) (.int .i64 E) (.int .i64 pl)) : RPPost R w (.returned (.tuple #[.agg #[.string ⟨#[]⟩, .slice none 0 0, .slice none 0 0], .agg #[.int .i64 E, .int .i64 pl]])) y := by
  subst hR
  exact ⟨none, 0, 0, none, 0, 0, rfl, QPart.nil _ _ _, hb.trans h.2.1⟩
theorem re_new {x : World} {lo : Nat} {vL : Value} {lines : List (List UInt8)} (h : StrL x lo vL lines) : Re x.heap.size lo vL lines 0 (x.alloc (.cells #[.int .i64 0] 3)) :=
  ⟨by simp, trivial, by simp, by simp, h.call ((Below.refl _ _).alloc (Nat.le_refl _) _), fun e => by have := (World.ownsRow.lt h _ e).2; omega⟩
set_option maxRecDepth 100000 in
set_option maxHeartbeats 16000000 in
theorem partParse_any (s : ByteArray) (w : World) (hs : s.size ≤ 9223372036854775807) :
    Calls Tryd.prog 11 #[.string s] w (RPPost (parseP s.data.toList) w) := by
  by_cases h1 : 100000 < s.size
  · have h1' : (100000 : Int) < (s.size : Int) := by omega
    have HE := Lib.hid (parseP_long (l := s.data.toList) (by rw [len_eq]; exact h1))
    go_enter Tryd.func11, Tryd.ntmps11
    go_wp2_with (go_at_call 24; refine (bad_any _ _).mono ?_; rintro e w5 ⟨rfl, hb⟩; have HB5 : Hid (Below w.heap.size w w5) := Lib.hid ((((Below.refl _ _).alloc (Nat.le_refl _) _).alloc (by simp) _).trans (hb.mono (by simp <;> omega))); have HZ5 := Lib.hid ((Z5.new w).call hb); have hz := HZ5.out; obtain ⟨f0, ⟨a1, a2, a3, a4, a5, a6⟩, d1, d2, d3, d4⟩ := hz; clear hb)
    have HF := fillA (c0 := .string ⟨#[]⟩) (c1 := .slice none 0 0) (c2 := .slice none 0 0) (d0 := .int .i64 6) (d1 := .int .i64 (-1)) HZ5.out rfl
    have HQ := Lib.hid HF
    have hq1 := HQ.out.1.1
    have hq2 := HQ.out.1.2.1
    have hq3 := HQ.out.1.2.2.1
    have hq4 := HQ.out.1.2.2.2.1
    have hq5 := HQ.out.1.2.2.2.2
    exact bodyPost_ret (v := .tuple #[.agg #[.string ⟨#[]⟩, .slice none 0 0, .slice none 0 0], .agg #[.int .i64 6, .int .i64 (-1)]]) (by simp [results, Tryd.results11, go_sem, hq1, hq2, hq3, hq4, hq5]) rfl (rp_none HE.out HB5.out HQ.out)
  · have h1' : ¬ (100000 : Int) < (s.size : Int) := by omega
    have hs2 : s.size ≤ 1048576 := by omega
    obtain ⟨U, hU⟩ : ∃ U, unfL s.data.toList = U := ⟨_, rfl⟩
    have hUl := unfL_len s
    rw [hU] at hUl
    have hUa := unfL_at s
    rw [hU] at hUa
    have CU : Hid (∀ w0, Calls Tryd.prog 25 #[.string s] w0 (TxtR U w0)) := Lib.hid fun w0 => hU ▸ runfold_any s w0 hs2
    by_cases h2 : 2000 < U.length
    · have h2' : (2000 : Int) < (U.length : Int) := by omega
      have HE := Lib.hid (parseP_many (l := s.data.toList) (by rw [len_eq]; exact h1) (by rw [hU]; exact h2))
      clear hU hUa
      go_enter Tryd.func11, Tryd.ntmps11
      go_wp2_with (first
        | (go_at_call 25; refine (CU.out _).mono ?_; rintro e w1 ⟨v, rfl, h, hb⟩; have H1 := Lib.hid h; have HZ := Lib.hid ((Z5.new w).call hb); have hz := (Z5.new w).call hb; obtain ⟨f0, ⟨a1, a2, a3, a4, a5, a6⟩, d1, d2, d3, d4⟩ := hz; have HB1 : Hid (Below w.heap.size w w1) := Lib.hid ((((Below.refl _ _).alloc (Nat.le_refl _) _).alloc (by simp) _).trans (hb.mono (by simp <;> omega))); have hfm := h.form; obtain ⟨oa, cap, rfl⟩ := hfm; clear h hb)
        | (go_at_call 24; refine (bad_any _ _).mono ?_; rintro e w5 ⟨rfl, hb⟩; have HB5 := Lib.hid (thenB HB1.out hb); have HZ5 := Lib.hid (HZ.out.call hb); clear hb; clear f0 a1 a2 a3 a4 a5 a6 d1 d2 d3 d4; have hz := HZ5.out; obtain ⟨f0, ⟨a1, a2, a3, a4, a5, a6⟩, d1, d2, d3, d4⟩ := hz))
      have HF := fillA (c0 := .string ⟨#[]⟩) (c1 := .slice none 0 0) (c2 := .slice none 0 0) (d0 := .int .i64 6) (d1 := .int .i64 (-1)) HZ5.out rfl
      have HQ := Lib.hid HF
      have hq1 := HQ.out.1.1
      have hq2 := HQ.out.1.2.1
      have hq3 := HQ.out.1.2.2.1
      have hq4 := HQ.out.1.2.2.2.1
      have hq5 := HQ.out.1.2.2.2.2
      exact bodyPost_ret (v := .tuple #[.agg #[.string ⟨#[]⟩, .slice none 0 0, .slice none 0 0], .agg #[.int .i64 6, .int .i64 (-1)]]) (by simp [results, Tryd.results11, go_sem, hq1, hq2, hq3, hq4, hq5]) rfl (rp_none HE.out HB5.out HQ.out)
    · have h2' : ¬ (2000 : Int) < (U.length : Int) := by omega
      obtain ⟨R, hR⟩ : ∃ R, partP U 8 0 = R := ⟨_, rfl⟩
      have hgo := parseP_go (l := s.data.toList) (r := R) (by rw [len_eq]; exact h1) (by rw [hU]; exact h2) (by rw [hU]; exact hR)
      rw [hU] at hgo
      have HGO := Lib.hid hgo
      have CK : Hid (∀ (x : World) (lo : Nat) (vL : Value), StrL x lo vL U → Calls Tryd.prog 26 #[vL, .pointer (some ⟨x.heap.size, 0, none⟩), .int .i64 1] (x.alloc (.cells #[.int .i64 0] 3)) (PuPost 8 x.heap.size lo vL U R (x.alloc (.cells #[.int .i64 0] 3)))) := Lib.hid fun x lo vL h => by
        have hc := readPart_any (rb := x.heap.size) (lo := lo) (vL := vL) (lines := U) (by omega) (fun i hi => Nat.le_trans (hUa i hi) hs2) 8 (Nat.le_refl _) 0 _ (re_new h) (Nat.zero_le _)
        rw [hR] at hc
        exact hc
      clear hU hUa hgo hR
      by_cases hE : R.err = 0
      · have HE0 := Lib.hid hE
        clear hE
        go_enter Tryd.func11, Tryd.ntmps11
        go_upto_region 8 with (first
          | (go_at_call 25; refine (CU.out _).mono ?_; rintro e w1 ⟨v, rfl, h, hb⟩; have H1 := Lib.hid h; have HZ := Lib.hid ((Z5.new w).call hb); have hz := (Z5.new w).call hb; obtain ⟨f0, ⟨a1, a2, a3, a4, a5, a6⟩, d1, d2, d3, d4⟩ := hz; have HB1 : Hid (Below w.heap.size w w1) := Lib.hid ((((Below.refl _ _).alloc (Nat.le_refl _) _).alloc (by simp) _).trans (hb.mono (by simp <;> omega))); have hfm := h.form; obtain ⟨oa, cap, rfl⟩ := hfm; clear h hb)
          | (go_at_call 26; refine (CK.out _ _ _ H1.out).mono ?_; rintro e w5 ⟨hRe, hg, hok, -⟩; obtain ⟨u5, v5, rfl, hq5⟩ := hok HE0.out; have HG := Lib.hid hg; have HQ5 := Lib.hid hq5; have HRe := Lib.hid hRe; have hfm := hq5.form; obtain ⟨⟨ou5, n5, cu5, rfl⟩, ov5, m5, cv5, rfl⟩ := hfm; clear hok hg hq5 hRe))
        obtain ⟨W, hW⟩ : ∃ x, w5.alloc (.cells #[.string R.part.name, .slice ou5 n5 cu5, .slice ov5 m5 cv5] 25) = x := ⟨_, rfl⟩
        have hbW : Below w5.heap.size w5 W := by rw [← hW]; exact (Below.refl _ _).alloc (Nat.le_refl _) _
        have HBW := Lib.hid hbW
        have hb1 : Below w1.heap.size w1 (w1.alloc (.cells #[.int .i64 0] 3)) := (Below.refl _ _).alloc (Nat.le_refl _) _
        have HZ5 : Hid (Z5 w.heap.size W) := Lib.hid (((HZ.out.call hb1).keep HG.out.size (HG.out.block _ (by have := f0; simp; omega) (fun e => by injection e with e; omega)) (HG.out.block _ (by have := f0; simp; omega) (fun e => by injection e with e; omega))).call hbW)
        have HB5 : Hid (Below w.heap.size w W) := Lib.hid (thenB (below_grown (thenB HB1.out hb1) HG.out HB1.out.size) hbW)
        have x0 : W.cell? ⟨w5.heap.size, 0, none⟩ = some (.string R.part.name) := by rw [← hW]; simp
        have x1 : W.cell? ⟨w5.heap.size, 1, none⟩ = some (.slice ou5 n5 cu5) := by rw [← hW]; simp
        have x2 : W.cell? ⟨w5.heap.size, 2, none⟩ = some (.slice ov5 m5 cv5) := by rw [← hW]; simp
        have x3 : w5.heap.size < W.heap.size := by rw [← hW]; simp
        have t0 : W.cell? ⟨w1.heap.size, 0, none⟩ = some (.int .i64 (R.pos : Int)) := (hbW.cell (p := ⟨w1.heap.size, 0, none⟩) HRe.out.1).trans HRe.out.2.2.1
        have t1 : w1.heap.size < W.heap.size := Nat.lt_of_lt_of_le HRe.out.1 hbW.size
        have t2 : w.heap.size + 1 < w1.heap.size := f0
        have t3 : w1.heap.size < w5.heap.size := HRe.out.1
        rw [hW]
        clear hb1 hbW hW
        clear f0 a1 a2 a3 a4 a5 a6 d1 d2 d3 d4
        have hz := HZ5.out
        obtain ⟨f0, ⟨a1, a2, a3, a4, a5, a6⟩, d1, d2, d3, d4⟩ := hz
        obtain ⟨z5, hz5⟩ : ∃ z, w5.heap.size = z := ⟨_, rfl⟩
        rw [hz5] at x0 x1 x2 x3 ⊢
        obtain ⟨z1, hz1⟩ : ∃ z, w1.heap.size = z := ⟨_, rfl⟩
        rw [hz1] at t0 t1 t2 ⊢
        by_cases hps : R.pos < U.length
        · have p1 : (R.pos : Int) < (U.length : Int) := by omega
          have HE := Lib.hid (HGO.out.2.1 HE0.out hps)
          clear hps
          go_upto_region 11 with fail
          have n1 : z1 ≠ w.heap.size := by omega
          have n2 : z1 ≠ w.heap.size + 1 := by omega
          have S1 : Hid (∀ c0 c1 c2, (((W.setCell ⟨w.heap.size, 0, none⟩ c0).setCell ⟨w.heap.size, 1, none⟩ c1).setCell ⟨w.heap.size, 2, none⟩ c2).cell? ⟨z1, 0, none⟩ = some (.int .i64 (R.pos : Int))) := Lib.hid fun c0 c1 c2 => (World.cell?_of_block (a := ⟨z1, 0, none⟩) ((fill_p HZ5.out.2.1 rfl).2.2 z1 n1)).trans t0
          have S2 : Hid (∀ c0 c1 c2 d0 d1, (((((W.setCell ⟨w.heap.size, 0, none⟩ c0).setCell ⟨w.heap.size, 1, none⟩ c1).setCell ⟨w.heap.size, 2, none⟩ c2).setCell ⟨w.heap.size + 1, 0, none⟩ d0).setCell ⟨w.heap.size + 1, 1, none⟩ d1).cell? ⟨z1, 0, none⟩ = some (.int .i64 (R.pos : Int))) := Lib.hid fun c0 c1 c2 d0 d1 => (World.cell?_of_block (a := ⟨z1, 0, none⟩) ((fillA HZ5.out rfl).2.2 z1 t1 n1 n2)).trans t0
          go_region_held3 (fun w' => w'.cell? ⟨z1, 0, none⟩ = some (.int .i64 (R.pos : Int))) (first | with_reducible exact t0 | with_reducible exact S1.out _ _ _ | with_reducible exact S2.out _ _ _ _ _ | (simp only [World.cell?_drew]; first | with_reducible exact t0 | with_reducible exact S1.out _ _ _ | with_reducible exact S2.out _ _ _ _ _)) (fail)
          go_wp2_with fail
          have HF := fillA (c0 := .string ⟨#[]⟩) (c1 := .slice none 0 0) (c2 := .slice none 0 0) (d0 := .int .i64 5) (d1 := .int .i64 (R.pos : Int)) HZ5.out rfl
          replace HF := HF.drew
          have HQ := Lib.hid HF
          have hq1 := HQ.out.1.1
          have hq2 := HQ.out.1.2.1
          have hq3 := HQ.out.1.2.2.1
          have hq4 := HQ.out.1.2.2.2.1
          have hq5 := HQ.out.1.2.2.2.2
          exact bodyPost_ret (v := .tuple #[.agg #[.string ⟨#[]⟩, .slice none 0 0, .slice none 0 0], .agg #[.int .i64 5, .int .i64 (R.pos : Int)]]) (by simp [results, Tryd.results11, go_sem, hq1, hq2, hq3, hq4, hq5]) rfl (rp_none HE.out HB5.out HQ.out)
        · have p1 : ¬ (R.pos : Int) < (U.length : Int) := by omega
          have HE := Lib.hid (HGO.out.2.2 HE0.out hps)
          clear hps
          go_upto_region 12 with fail
          have y0 := cell_regrown x0
          have y1 := cell_regrown x1
          have y2 := cell_regrown x2
          refine wp_region_below_tail 2 (by kernel_rfl) (by kernel_rfl) ?_
          simp only [List.take_succ_cons, List.take_zero, List.drop_succ_cons, List.drop_zero]
          repeat (go_big_quiet_step ((go_at_call 27; exact Calls.regrown_of (fine_any _))))
          refine wpQuiet_nil ?_
          intro w7 hb7
          have HB7 := Lib.hid (thenB HB5.out hb7)
          have HZ7 := Lib.hid (HZ5.out.call hb7)
          have HB8 := Lib.hid hb7
          clear f0 a1 a2 a3 a4 a5 a6 d1 d2 d3 d4 hb7 y0 y1 y2 t0 x0 x1 x2
          have hz := HZ7.out
          obtain ⟨f0, ⟨a1, a2, a3, a4, a5, a6⟩, d1, d2, d3, d4⟩ := hz
          go_wp2_with fail
          have HF := fillA (c0 := .string R.part.name) (c1 := .slice ou5 n5 cu5) (c2 := .slice ov5 m5 cv5) (d0 := .int .i64 0) (d1 := .int .i64 (-1)) HZ7.out rfl
          have HQ := Lib.hid HF
          have hq1 := HQ.out.1.1
          have hq2 := HQ.out.1.2.1
          have hq3 := HQ.out.1.2.2.1
          have hq4 := HQ.out.1.2.2.2.1
          have hq5 := HQ.out.1.2.2.2.2
          refine bodyPost_ret (v := .tuple #[.agg #[.string R.part.name, .slice ou5 n5 cu5, .slice ov5 m5 cv5], .agg #[.int .i64 0, .int .i64 (-1)]]) (by simp [results, Tryd.results11, go_sem, hq1, hq2, hq3, hq4, hq5]) rfl ?_
          unfold RPPost
          rw [HE.out]
          refine ⟨ou5, n5, cu5, ov5, m5, cv5, rfl, HQ5.out.keep fun b hb => ?_, HB7.out.trans HQ.out.2.1⟩
          have h7 := hb.1
          simp at h7
          have hb5 : b < w5.heap.size := hb.2
          have hb6 := Nat.lt_of_lt_of_le hb5 HBW.out.size
          have hb7 := Nat.lt_of_lt_of_le hb6 HB8.out.size
          exact ⟨⟨by omega, Nat.lt_of_lt_of_le hb7 (by simp [World.setCell])⟩, (HQ.out.2.2 b hb7 (by omega) (by omega)).trans ((HB8.out.block b hb6).trans (HBW.out.block b hb5))⟩
      · have HE0 := Lib.hid hE
        have HE := Lib.hid (HGO.out.1 hE)
        obtain ⟨E5, hE5⟩ : ∃ E, R.err = E := ⟨_, rfl⟩
        rw [hE5] at HE HE0
        have HE5 := Lib.hid hE5
        have e0 : (E5 == 0) = false := beq_eq_false_iff_ne.2 HE0.out
        clear hE hE5
        go_enter Tryd.func11, Tryd.ntmps11
        go_upto_region 8 with (first
          | (go_at_call 25; refine (CU.out _).mono ?_; rintro e w1 ⟨v, rfl, h, hb⟩; have H1 := Lib.hid h; have HZ := Lib.hid ((Z5.new w).call hb); have hz := (Z5.new w).call hb; obtain ⟨f0, ⟨a1, a2, a3, a4, a5, a6⟩, d1, d2, d3, d4⟩ := hz; have HB1 : Hid (Below w.heap.size w w1) := Lib.hid ((((Below.refl _ _).alloc (Nat.le_refl _) _).alloc (by simp) _).trans (hb.mono (by simp <;> omega))); have hfm := h.form; obtain ⟨oa, cap, rfl⟩ := hfm; clear h hb)
          | (go_at_call 26; refine (CK.out _ _ _ H1.out).mono ?_; rintro e w5 ⟨hRe, hg, -, hno⟩; rw [HE5.out] at hno; obtain ⟨nm5, ou5, n5, cu5, ov5, m5, cv5, rfl⟩ := hno HE0.out; have HG := Lib.hid hg; have HRe := Lib.hid hRe; clear hno hg hRe))
        obtain ⟨W, hW⟩ : ∃ x, w5.alloc (.cells #[.string nm5, .slice ou5 n5 cu5, .slice ov5 m5 cv5] 25) = x := ⟨_, rfl⟩
        have hbW : Below w5.heap.size w5 W := by rw [← hW]; exact (Below.refl _ _).alloc (Nat.le_refl _) _
        have HBW := Lib.hid hbW
        have hb1 : Below w1.heap.size w1 (w1.alloc (.cells #[.int .i64 0] 3)) := (Below.refl _ _).alloc (Nat.le_refl _) _
        have HZ5 : Hid (Z5 w.heap.size W) := Lib.hid (((HZ.out.call hb1).keep HG.out.size (HG.out.block _ (by have := f0; simp; omega) (fun e => by injection e with e; omega)) (HG.out.block _ (by have := f0; simp; omega) (fun e => by injection e with e; omega))).call hbW)
        have HB5 : Hid (Below w.heap.size w W) := Lib.hid (thenB (below_grown (thenB HB1.out hb1) HG.out HB1.out.size) hbW)
        have x0 : W.cell? ⟨w5.heap.size, 0, none⟩ = some (.string nm5) := by rw [← hW]; simp
        have x1 : W.cell? ⟨w5.heap.size, 1, none⟩ = some (.slice ou5 n5 cu5) := by rw [← hW]; simp
        have x2 : W.cell? ⟨w5.heap.size, 2, none⟩ = some (.slice ov5 m5 cv5) := by rw [← hW]; simp
        have x3 : w5.heap.size < W.heap.size := by rw [← hW]; simp
        have t0 : W.cell? ⟨w1.heap.size, 0, none⟩ = some (.int .i64 (R.pos : Int)) := (hbW.cell (p := ⟨w1.heap.size, 0, none⟩) HRe.out.1).trans HRe.out.2.2.1
        have t1 : w1.heap.size < W.heap.size := Nat.lt_of_lt_of_le HRe.out.1 hbW.size
        have t2 : w.heap.size + 1 < w1.heap.size := f0
        have t3 : w1.heap.size < w5.heap.size := HRe.out.1
        rw [hW]
        clear hb1 hbW hW
        clear f0 a1 a2 a3 a4 a5 a6 d1 d2 d3 d4
        have hz := HZ5.out
        obtain ⟨f0, ⟨a1, a2, a3, a4, a5, a6⟩, d1, d2, d3, d4⟩ := hz
        obtain ⟨z5, hz5⟩ : ∃ z, w5.heap.size = z := ⟨_, rfl⟩
        rw [hz5] at x0 x1 x2 x3 ⊢
        obtain ⟨z1, hz1⟩ : ∃ z, w1.heap.size = z := ⟨_, rfl⟩
        rw [hz1] at t0 t1 t2 ⊢
        go_upto_region 11 with fail
        have n1 : z1 ≠ w.heap.size := by omega
        have n2 : z1 ≠ w.heap.size + 1 := by omega
        have S1 : Hid (∀ c0 c1 c2, (((W.setCell ⟨w.heap.size, 0, none⟩ c0).setCell ⟨w.heap.size, 1, none⟩ c1).setCell ⟨w.heap.size, 2, none⟩ c2).cell? ⟨z1, 0, none⟩ = some (.int .i64 (R.pos : Int))) := Lib.hid fun c0 c1 c2 => (World.cell?_of_block (a := ⟨z1, 0, none⟩) ((fill_p HZ5.out.2.1 rfl).2.2 z1 n1)).trans t0
        have S2 : Hid (∀ c0 c1 c2 d0 d1, (((((W.setCell ⟨w.heap.size, 0, none⟩ c0).setCell ⟨w.heap.size, 1, none⟩ c1).setCell ⟨w.heap.size, 2, none⟩ c2).setCell ⟨w.heap.size + 1, 0, none⟩ d0).setCell ⟨w.heap.size + 1, 1, none⟩ d1).cell? ⟨z1, 0, none⟩ = some (.int .i64 (R.pos : Int))) := Lib.hid fun c0 c1 c2 d0 d1 => (World.cell?_of_block (a := ⟨z1, 0, none⟩) ((fillA HZ5.out rfl).2.2 z1 t1 n1 n2)).trans t0
        go_region_held3 (fun w' => w'.cell? ⟨z1, 0, none⟩ = some (.int .i64 (R.pos : Int))) (first | with_reducible exact t0 | with_reducible exact S1.out _ _ _ | with_reducible exact S2.out _ _ _ _ _ | (simp only [World.cell?_drew]; first | with_reducible exact t0 | with_reducible exact S1.out _ _ _ | with_reducible exact S2.out _ _ _ _ _)) (fail)
        go_wp2_with fail
        have HF := fillA (c0 := .string ⟨#[]⟩) (c1 := .slice none 0 0) (c2 := .slice none 0 0) (d0 := .int .i64 E5) (d1 := .int .i64 (R.pos : Int)) HZ5.out rfl
        replace HF := HF.drew
        have HQ := Lib.hid HF
        have hq1 := HQ.out.1.1
        have hq2 := HQ.out.1.2.1
        have hq3 := HQ.out.1.2.2.1
        have hq4 := HQ.out.1.2.2.2.1
        have hq5 := HQ.out.1.2.2.2.2
        exact bodyPost_ret (v := .tuple #[.agg #[.string ⟨#[]⟩, .slice none 0 0, .slice none 0 0], .agg #[.int .i64 E5, .int .i64 (R.pos : Int)]]) (by simp [results, Tryd.results11, go_sem, hq1, hq2, hq3, hq4, hq5]) rfl (rp_none HE.out HB5.out HQ.out)
end Go.Proofs.YtidgahnamdhflaaDoor
