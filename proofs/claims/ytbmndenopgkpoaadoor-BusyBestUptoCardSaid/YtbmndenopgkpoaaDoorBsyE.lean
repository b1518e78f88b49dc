/- Lists of sets and rooms in memory; busy.slot. -/
import Derived.Test.YtbmndenopgkpoaaDoorBsyC
import Derived.Test.YtbmndenopgkpoaaDoorBsyD
import Derived.Test.YtbmndenopgkpoaaDoorMomD
import Derived.Deep.RegionHeld3
namespace Go.Proofs.YtbmndenopgkpoaaDoor
open Go.RowKit Wrk Go.Shelf
theorem belowN {B : Nat} {a w : World} (h : Below B a w) (n : Nat) : Below B a (w.drewN n) := ⟨h.os, h.tape, h.output, h.size, h.block⟩
/-- A list of sets. -/
def SetsS (w : World) (v : Value) (Ls : List (List Iv)) : Prop := ∃ ob cap, v = .slice ob Ls.length cap ∧ (0 < Ls.length → ∃ a, ob = some a) ∧ ∀ a, ob = some a → (0 < Ls.length → a.block < w.heap.size) ∧ ∀ k, k < Ls.length → ∃ u, w.cell? (a.add k) = some u ∧ IvS w u (Ls.getD k [])
theorem SetsS.call {w w' : World} {v : Value} {Ls : List (List Iv)} (h : SetsS w v Ls) (hb : Below w.heap.size w w') : SetsS w' v Ls := by
  obtain ⟨ob, cap, h1, h2, h3⟩ := h
  refine ⟨ob, cap, h1, h2, fun a ha => ⟨fun h0 => Nat.lt_of_lt_of_le ((h3 a ha).1 h0) hb.size, fun k hk => ?_⟩⟩
  obtain ⟨u, g1, g2⟩ := (h3 a ha).2 k hk
  exact ⟨u, (hb.cell (p := a.add k) (by rw [ivAdd_block]; exact (h3 a ha).1 (by omega))).trans g1, g2.call hb⟩
theorem SetsS.form {w : World} {v : Value} {Ls : List (List Iv)} (h : SetsS w v Ls) : ∃ ob cap, v = .slice ob Ls.length cap := by
  obtain ⟨ob, cap, h1, _⟩ := h; exact ⟨ob, cap, h1⟩
theorem SetsS.at {w : World} {ob : Option Addr} {n cap : Nat} {Ls : List (List Iv)} (h : SetsS w (.slice ob n cap) Ls) {k : Nat} (hk : k < Ls.length) : ∃ a oc c, ob = some a ∧ w.cell? (a.add k) = some (.slice oc (Ls.getD k []).length c) ∧ IvS w (.slice oc (Ls.getD k []).length c) (Ls.getD k []) := by
  obtain ⟨ob', c', h1, h2, h3⟩ := h
  cases h1
  obtain ⟨a, rfl⟩ := h2 (by omega)
  obtain ⟨u, g1, g2⟩ := (h3 a rfl).2 k hk
  obtain ⟨oc, c, rfl, -, -⟩ := id g2
  exact ⟨a, oc, c, rfl, g1, g2⟩
/-- A list of rooms. -/
def RoomsS (w : World) (v : Value) (Rs : List Rm) : Prop := ∃ ob cap, v = .slice ob Rs.length cap ∧ (0 < Rs.length → ∃ a, ob = some a) ∧ ∀ a, ob = some a → (0 < Rs.length → a.block < w.heap.size) ∧ ∀ k, k < Rs.length → w.cell? (a.add (k * 2)) = some (.int .i64 (Rs.getD k rm0).1) ∧ ∃ u, w.cell? { block := (a.add (k * 2)).block, off := (a.add (k * 2)).off + 1 } = some u ∧ IvS w u (Rs.getD k rm0).2
theorem RoomsS.call {w w' : World} {v : Value} {Rs : List Rm} (h : RoomsS w v Rs) (hb : Below w.heap.size w w') : RoomsS w' v Rs := by
  obtain ⟨ob, cap, h1, h2, h3⟩ := h
  refine ⟨ob, cap, h1, h2, fun a ha => ⟨fun h0 => Nat.lt_of_lt_of_le ((h3 a ha).1 h0) hb.size, fun k hk => ?_⟩⟩
  obtain ⟨g0, u, g1, g2⟩ := (h3 a ha).2 k hk
  have hlt := (h3 a ha).1 (by omega)
  exact ⟨(hb.cell (p := a.add (k * 2)) (by rw [ivAdd_block]; exact hlt)).trans g0, u, (hb.cell (p := { block := (a.add (k * 2)).block, off := (a.add (k * 2)).off + 1 }) (by show (a.add (k * 2)).block < _; rw [ivAdd_block]; exact hlt)).trans g1, g2.call hb⟩
theorem RoomsS.form {w : World} {v : Value} {Rs : List Rm} (h : RoomsS w v Rs) : ∃ ob cap, v = .slice ob Rs.length cap := by
  obtain ⟨ob, cap, h1, _⟩ := h; exact ⟨ob, cap, h1⟩
theorem RoomsS.at {w : World} {ob : Option Addr} {n cap : Nat} {Rs : List Rm} (h : RoomsS w (.slice ob n cap) Rs) {k : Nat} (hk : k < Rs.length) : ∃ a oc c, ob = some a ∧ w.cell? (a.add (k * 2)) = some (.int .i64 (Rs.getD k rm0).1) ∧ w.cell? { block := (a.add (k * 2)).block, off := (a.add (k * 2)).off + 1 } = some (.slice oc (Rs.getD k rm0).2.length c) ∧ IvS w (.slice oc (Rs.getD k rm0).2.length c) (Rs.getD k rm0).2 := by
  obtain ⟨ob', c', h1, h2, h3⟩ := h
  cases h1
  obtain ⟨a, rfl⟩ := h2 (by omega)
  obtain ⟨g0, u, g1, g2⟩ := (h3 a rfl).2 k hk
  obtain ⟨oc, c, rfl, -, -⟩ := id g2
  exact ⟨a, oc, c, rfl, g0, g1, g2⟩
theorem missL_snoc (P : List (List Iv)) (l : List Int) (x a b : Int) : missL P (l ++ [x]) a b = missL P l a b ++ (if canB (P.getD x.toNat []) a b = true then [] else [x]) := by
  unfold missL
  rw [List.filter_append]
  congr 1
  cases h : canB (P.getD x.toNat []) a b
  · rw [List.filter_cons_of_pos (by rw [h]; rfl)]; rfl
  · rw [List.filter_cons_of_neg (by rw [h]; decide)]; rfl
theorem missL_take {P : List (List Iv)} {l : List Int} {k : Nat} (hk : k < l.length) (a b : Int) : missL P (l.take (k + 1)) a b = missL P (l.take k) a b ++ (if canB (P.getD (l.getD k 0).toNat []) a b = true then [] else [l.getD k 0]) := by
  rw [← missL_snoc, List.take_add_one, List.getD_eq_getElem?_getD, List.getElem?_eq_getElem hk]; rfl
theorem missL_sub {P : List (List Iv)} {l : List Int} {k : Nat} {a b : Int} (h : missL P l a b = []) : missL P (l.take k) a b = [] := by
  have h2 : missL P l a b = missL P (l.take k) a b ++ missL P (l.drop k) a b := by unfold missL; rw [← List.filter_append, List.take_append_drop]
  rw [h] at h2
  exact (List.append_eq_nil_iff.1 h2.symm).1
theorem missL_len (P : List (List Iv)) (l : List Int) (a b : Int) : (missL P l a b).length ≤ l.length := List.length_filter_le _ _
/-- A box of a Slot. -/
structure SlBx (w : World) (Z : Nat) (a r : Int) (v : Value) : Prop where
  c0 : w.cell? ⟨Z, 0, none⟩ = some (.int .i64 a)
  c1 : w.cell? ⟨Z, 1, none⟩ = some (.int .i64 r)
  c2 : w.cell? ⟨Z, 2, none⟩ = some v
  f0 : w.frozen? ⟨Z, 0, none⟩ = false
  f1 : w.frozen? ⟨Z, 1, none⟩ = false
  f2 : w.frozen? ⟨Z, 2, none⟩ = false
theorem SlBx.new (w : World) (a r : Int) (v : Value) : SlBx (w.alloc (.cells #[.int .i64 a, .int .i64 r, v] 45)) w.heap.size a r v := ⟨by simp, by simp, by simp, by simp, by simp, by simp⟩
theorem SlBx.call {w w' : World} {Z N : Nat} {a r : Int} {v : Value} (h : SlBx w Z a r v) (hb : Below N w w') (hZ : Z < N) : SlBx w' Z a r v :=
  ⟨(hb.cell (p := ⟨Z, 0, none⟩) hZ).trans h.c0, (hb.cell (p := ⟨Z, 1, none⟩) hZ).trans h.c1, (hb.cell (p := ⟨Z, 2, none⟩) hZ).trans h.c2, (hb.frozen (p := ⟨Z, 0, none⟩) hZ).trans h.f0, (hb.frozen (p := ⟨Z, 1, none⟩) hZ).trans h.f1, (hb.frozen (p := ⟨Z, 2, none⟩) hZ).trans h.f2⟩
theorem SlBx.put {w : World} {Z : Nat} {a r : Int} {v : Value} (h : SlBx w Z a r v) (x y : Int) (u : Value) : SlBx (((w.setCell ⟨Z, 0, none⟩ (.int .i64 x)).setCell ⟨Z, 1, none⟩ (.int .i64 y)).setCell ⟨Z, 2, none⟩ u) Z x y u := by
  have n01 : (⟨Z, 0, none⟩ : Addr) ≠ ⟨Z, 1, none⟩ := by simp
  have n02 : (⟨Z, 0, none⟩ : Addr) ≠ ⟨Z, 2, none⟩ := by simp
  have n12 : (⟨Z, 1, none⟩ : Addr) ≠ ⟨Z, 2, none⟩ := by simp
  refine ⟨?_, ?_, ?_, by simp [h.f0], by simp [h.f1], by simp [h.f2]⟩
  · rw [World.cell?_setCell_other _ _ _ _ n02.symm, World.cell?_setCell_other _ _ _ _ n01.symm]
    exact World.cell?_setCell_same _ _ _ h.c0
  · rw [World.cell?_setCell_other _ _ _ _ n12.symm]
    exact World.cell?_setCell_same _ _ _ ((World.cell?_setCell_other _ _ _ _ n01).trans h.c1)
  · exact World.cell?_setCell_same _ _ _ ((World.cell?_setCell_other _ _ _ _ n12).trans ((World.cell?_setCell_other _ _ _ _ n02).trans h.c2))
theorem SlBx.set2 {w : World} {Z : Nat} {a r : Int} {v : Value} (h : SlBx w Z a r v) (u : Value) : SlBx (w.setCell ⟨Z, 2, none⟩ u) Z a r u := by
  have n02 : (⟨Z, 2, none⟩ : Addr) ≠ ⟨Z, 0, none⟩ := by simp
  have n12 : (⟨Z, 2, none⟩ : Addr) ≠ ⟨Z, 1, none⟩ := by simp
  exact ⟨(World.cell?_setCell_other _ _ _ _ n02).trans h.c0, (World.cell?_setCell_other _ _ _ _ n12).trans h.c1, World.cell?_setCell_same _ _ _ h.c2, by simp [h.f0], by simp [h.f1], by simp [h.f2]⟩
theorem SlBx.set1 {w : World} {Z : Nat} {a r : Int} {v : Value} (h : SlBx w Z a r v) (u : Int) : SlBx (w.setCell ⟨Z, 1, none⟩ (.int .i64 u)) Z a u v := by
  have n02 : (⟨Z, 1, none⟩ : Addr) ≠ ⟨Z, 0, none⟩ := by simp
  have n12 : (⟨Z, 1, none⟩ : Addr) ≠ ⟨Z, 2, none⟩ := by simp
  exact ⟨(World.cell?_setCell_other _ _ _ _ n02).trans h.c0, World.cell?_setCell_same _ _ _ h.c1, (World.cell?_setCell_other _ _ _ _ n12).trans h.c2, by simp [h.f0], by simp [h.f1], by simp [h.f2]⟩
theorem IntL.far {w : World} {b : Nat} {v : Value} {l : List Int} (h : IntL w b v l) {p : Addr} (hp : p.block < b) (u : Value) : IntL (w.setCell p u) b v l :=
  ivOwn_far h (fun k hk => by have := (World.ownsRow.lt h k hk).1; omega) u
theorem SlBx.drew {w : World} {Z : Nat} {a r : Int} {v : Value} (h : SlBx w Z a r v) : SlBx w.drew Z a r v := ⟨by rw [World.cell?_drew]; exact h.c0, by rw [World.cell?_drew]; exact h.c1, by rw [World.cell?_drew]; exact h.c2, by simp [h.f0], by simp [h.f1], by simp [h.f2]⟩
theorem below_put3 {B : Nat} {w w' : World} (h : Below B w w') {Z : Nat} (hZ : B ≤ Z) (x y z : Value) : Below B w (((w'.setCell ⟨Z, 0, none⟩ x).setCell ⟨Z, 1, none⟩ y).setCell ⟨Z, 2, none⟩ z) :=
  ((h.setCell (p := ⟨Z, 0, none⟩) hZ _).setCell (p := ⟨Z, 1, none⟩) hZ _).setCell (p := ⟨Z, 2, none⟩) hZ _
theorem roomF_take {R : List Rm} {se a b : Int} {k : Nat} (h : candB R se a b k = true ∧ (roomF R se a b k < 0 ∨ (R.getD k rm0).1 < (R.getD (roomF R se a b k).toNat rm0).1)) : roomF R se a b (k + 1) = k := if_pos h
theorem roomF_keep {R : List Rm} {se a b : Int} {k : Nat} (h : ¬ (candB R se a b k = true ∧ (roomF R se a b k < 0 ∨ (R.getD k rm0).1 < (R.getD (roomF R se a b k).toNat rm0).1))) : roomF R se a b (k + 1) = roomF R se a b k := if_neg h
theorem candB_low {R : List Rm} {se a b : Int} {k : Nat} (h : ¬ se ≤ (R.getD k rm0).1) : candB R se a b k = false := by unfold candB; rw [decide_eq_false h]; rfl
theorem candB_at {R : List Rm} {se a b : Int} {k : Nat} (h : se ≤ (R.getD k rm0).1) : candB R se a b k = canB (R.getD k rm0).2 a b := by unfold candB; rw [decide_eq_true h]; rfl
/-- What slot hands back. -/
def SlotPost (W : Wnt) (P : List (List Iv)) (R : List Rm) (a : Int) (w : World) (e : Ending) (w' : World) : Prop :=
  ∃ (x r : Int) (v : Value) (m : List Int) (q : Bool), e = .returned (.tuple #[.agg #[.int .i64 x, .int .i64 r, v], .bool q]) ∧ IntL w' w.heap.size v m ∧ m.length ≤ 10000000 ∧ (q = true → x = a ∧ slotR W P R a = some (r, m)) ∧ (q = false → slotR W P R a = none) ∧ Below w.heap.size w w'
set_option maxRecDepth 100000 in
set_option maxHeartbeats 16000000 in
theorem slot_any (W : Wnt) (vm vs vp vr : Value) (P : List (List Iv)) (R : List Rm) (a : Int) (w : World) (hm : IntC w vm W.must) (hs : IntC w vs W.should) (hP : SetsS w vp P) (hR : RoomsS w vr R)
    (lP : ∀ l, l ∈ P → l.length ≤ 1000000) (lR : ∀ r, r ∈ R → r.2.length ≤ 1000000) (nR : R.length ≤ 1000000) (nM : W.must.length ≤ 10000000) (nS : W.should.length ≤ 10000000) (hwho : ∀ x, x ∈ W.must ++ W.should → 0 ≤ x ∧ x < P.length)
    (a1 : -400000000000 ≤ a) (a2 : a ≤ 400000000000) (l1 : 1 ≤ W.len) (l2 : W.len ≤ 34560000) (s1 : 0 ≤ W.seats) :
    Calls Tryd.prog 30 #[wantV W vm vs, vp, vr, .int .i64 a] w (SlotPost W P R a w) := by
  obtain ⟨om, cm, rfl⟩ := hm.form
  obtain ⟨os, cs, rfl⟩ := hs.form
  obtain ⟨op, cp, rfl⟩ := hP.form
  obtain ⟨or, cr, rfl⟩ := hR.form
  obtain ⟨wB, hwB, ⟨hb0, hlt⟩, f0, f1, f2, f3, f4, f5, f6⟩ := want_cells W (.slice om W.must.length cm) (.slice os W.should.length cs) w
  obtain ⟨nm, hnm⟩ : ∃ x, W.must.length = x := ⟨_, rfl⟩
  obtain ⟨ns, hns⟩ : ∃ x, W.should.length = x := ⟨_, rfl⟩
  obtain ⟨np, hnp⟩ : ∃ x, P.length = x := ⟨_, rfl⟩
  obtain ⟨nr, hnr⟩ : ∃ x, R.length = x := ⟨_, rfl⟩
  have HNM := Lib.hid hnm
  have HNS := Lib.hid hns
  have HNP := Lib.hid hnp
  have HNR := Lib.hid hnr
  rw [hnm] at hm hwB f4 nM ⊢
  rw [hns] at hs hwB f5 nS ⊢
  rw [hnp] at hP hwho ⊢
  rw [hnr] at hR nR ⊢
  have HWH := Lib.hid hwho
  have HLP := Lib.hid lP
  have HLR := Lib.hid lR
  clear hnm hns hnp hnr hwho lP lR
  unfold wantV
  obtain ⟨ln, hln⟩ : ∃ x, W.len = x := ⟨_, rfl⟩
  obtain ⟨st, hst⟩ : ∃ x, W.step = x := ⟨_, rfl⟩
  obtain ⟨fr, hfr⟩ : ∃ x, W.frm = x := ⟨_, rfl⟩
  obtain ⟨tt, htt⟩ : ∃ x, W.to = x := ⟨_, rfl⟩
  obtain ⟨se, hse⟩ : ∃ x, W.seats = x := ⟨_, rfl⟩
  have HLN := Lib.hid hln
  have HSE := Lib.hid hse
  rw [hln, hst, hfr, htt, hse] at hwB ⊢
  rw [hln] at f0 l1 l2
  rw [hst] at f1
  rw [hfr] at f2
  rw [htt] at f3
  rw [hse] at f6 s1
  clear hln hst hfr htt hse
  have HB0 := Lib.hid hb0
  have HLT := Lib.hid hlt
  obtain ⟨wC, hwC⟩ : ∃ wC, wB.alloc (.cells #[.int .i64 0, .int .i64 0, .slice none 0 0] 45) = wC := ⟨_, rfl⟩
  have hbC : Below wB.heap.size wB wC := by rw [← hwC]; exact (Below.refl _ _).alloc (Nat.le_refl _) _
  have hsC : wB.heap.size < wC.heap.size := by rw [← hwC]; simp
  have HR0 : Hid (SlBx wC wB.heap.size 0 0 (.slice none 0 0)) := Lib.hid (by rw [← hwC]; exact SlBx.new _ _ _ _)
  have HSC := Lib.hid hsC
  have HBC := Lib.hid (thenB hb0 hbC)
  obtain ⟨zB, hzB⟩ : ∃ z, wB.heap.size = z := ⟨_, rfl⟩
  have HZB := Lib.hid hzB
  have HC : Hid (∀ w', Below wC.heap.size wC w' → w'.cell? ⟨w.heap.size, 0, none⟩ = some (.int .i64 ln) ∧ w'.cell? ⟨w.heap.size, 4, none⟩ = some (.slice om nm cm) ∧ w'.cell? ⟨w.heap.size, 5, none⟩ = some (.slice os ns cs) ∧ w'.cell? ⟨w.heap.size, 6, none⟩ = some (.int .i64 se)) := Lib.hid fun w' hb => by
    have hz : w.heap.size < wC.heap.size := Nat.lt_trans hlt hsC
    have k : ∀ j, wC.cell? ⟨w.heap.size, j, none⟩ = wB.cell? ⟨w.heap.size, j, none⟩ := fun j => hbC.cell (p := ⟨w.heap.size, j, none⟩) hlt
    exact ⟨(hb.cell (p := ⟨w.heap.size, 0, none⟩) hz).trans ((k 0).trans f0), (hb.cell (p := ⟨w.heap.size, 4, none⟩) hz).trans ((k 4).trans f4), (hb.cell (p := ⟨w.heap.size, 5, none⟩) hz).trans ((k 5).trans f5), (hb.cell (p := ⟨w.heap.size, 6, none⟩) hz).trans ((k 6).trans f6)⟩
  have HM := Lib.hid ((hm.call hb0).call hbC)
  have HS := Lib.hid ((hs.call hb0).call hbC)
  have HP := Lib.hid ((hP.call hb0).call hbC)
  have HR := Lib.hid ((hR.call hb0).call hbC)
  rw [hzB] at HR0
  clear hm hs hP hR hb0 hlt hbC hsC f0 f1 f2 f3 f4 f5 f6
  go_enter Tryd.func30, Tryd.ntmps30
  go_upto_region 1 with fail
  try simp only [hzB, hwC]
  clear hwB hwC hzB
  obtain ⟨f0, f4, f5, f6⟩ := HC.out wC (Below.refl _ _)
  have e1 : IntKind.i64.wrap (a + ln) = a + ln := IntWalk.i64_in _ (by omega)
  go_quiet (fail)
  have HBQ := Lib.hid (belowN HBC.out nq)
  have HBq := Lib.hid (belowN (Below.refl wC.heap.size wC) nq)
  clear f0 f4 f5 f6 e1
  obtain ⟨wq, hwq⟩ : ∃ wq, wC.drewN nq = wq := ⟨_, rfl⟩
  rw [hwq] at HBQ HBq ⊢
  clear hwq
  obtain ⟨-, f4, -, -⟩ := HC.out wq HBq.out
  go_upto_region 3 with fail
  clear f4
  go_loopw [27] (fun c wr => ∃ k : Nat, c = .int .i64 (k : Int) ∧ k ≤ nm ∧ Hid (missL P (W.must.take k) a (a + ln) = []) ∧ Hid (Below wC.heap.size wC wr)) (fun c _ => nm - (intOf c).toNat)
  case atStart => exact ⟨0, rfl, by omega, Lib.hid rfl, HBq⟩
  case round =>
    obtain ⟨k, rfl, hk, HMK, HBk⟩ := hrel
    by_cases hkn : k < nm
    · have hk' : k < W.must.length := by rw [HNM.out]; exact hkn
      obtain ⟨am, rfl, hcm⟩ := (HM.out.call HBk.out).at hk'
      have HTK := Lib.hid (missL_take (P := P) hk' a (a + ln))
      have hx := HWH.out (W.must.getD k 0) (List.mem_append.2 (.inl (at_mem hk')))
      obtain ⟨x, hxx⟩ : ∃ x, W.must.getD k 0 = x := ⟨_, rfl⟩
      rw [hxx] at hcm hx HTK
      obtain ⟨xn, hxn⟩ : ∃ n : Nat, x = n := ⟨x.toNat, by omega⟩
      subst hxn
      obtain ⟨ap, oc, c, rfl, hcp, hiv⟩ := (HP.out.call HBk.out).at (k := xn) (by rw [HNP.out]; omega)
      have hln := HLP.out (P.getD xn []) (by rw [List.getD_eq_getElem?_getD, List.getElem?_eq_getElem (show xn < P.length by rw [HNP.out]; omega)]; exact List.getElem_mem _)
      rw [Int.toNat_natCast] at HTK
      obtain ⟨Lx, hLx⟩ : ∃ L, P.getD xn [] = L := ⟨_, rfl⟩
      rw [hLx] at hcp hiv hln HTK
      have CN := Lib.hid (fun w0 (hb : Below wr.heap.size wr w0) => can_any _ Lx a (a + ln) w0 (hiv.call hb) (by omega))
      obtain ⟨nx, hnx⟩ : ∃ n, Lx.length = n := ⟨_, rfl⟩
      rw [hnx] at hcp CN hln
      have k1 : (k : Int) < (nm : Int) := by omega
      have k2 : (0 : Int) ≤ (k : Int) := by omega
      have k3 : (xn : Int) < (np : Int) := by omega
      have k4 : (0 : Int) ≤ (xn : Int) := by omega
      clear hxx hLx hnx hiv hx hln
      cases hq : canB Lx a (a + ln) with
      | true =>
        rw [hq] at CN HTK
        have HMK2 : Hid (missL P (W.must.take (k + 1)) a (a + ln) = []) := Lib.hid (by rw [HTK.out, HMK.out]; rfl)
        clear hq
        go_wp2_with (go_at_call 40; refine (CN.out _ (Below.refl _ _)).mono ?_; rintro e w2 ⟨rfl, hb2⟩; have HB2 := Lib.hid (HBk.out.trans (hb2.mono HBk.out.size)); clear hb2)
        go_roundw
        case rel => exact ⟨k + 1, by go_num, by omega, HMK2, HB2⟩
        case measure => simp [intOf]; omega
      | false =>
        rw [hq] at CN HTK
        have HNO : Hid (slotR W P R a = none) := Lib.hid (by
          unfold slotR
          rw [if_neg ?_]
          intro h
          have h2 := missL_sub (k := k + 1) h
          rw [HLN.out, HTK.out] at h2
          simp at h2)
        clear hq
        go_wp2_with (go_at_call 40; refine (CN.out _ (Below.refl _ _)).mono ?_; rintro e w2 ⟨rfl, hb2⟩; have HB2 := Lib.hid (HBk.out.trans (hb2.mono HBk.out.size)); have hr2 := HR0.out.call HB2.out (by have := HSC.out; have := HZB.out; omega); have HR2 := Lib.hid hr2; have r0 := hr2.c0; have r1 := hr2.c1; have r2 := hr2.c2; have q0 := hr2.f0; have q1 := hr2.f1; have q2 := hr2.f2; clear hb2 hr2)
        have HF := HR2.out.put 0 0 (.slice none 0 0)
        refine bodyPost_ret (v := .tuple #[.agg #[.int .i64 0, .int .i64 0, .slice none 0 0], .bool false]) (by simp [results, Tryd.results30, go_sem, HF.c0, HF.c1, HF.c2]) rfl ?_
        unfold SlotPost
        refine ⟨0, 0, .slice none 0 0, [], false, rfl, IntL.nil _ _, by simp, fun h => (by cases h), fun _ => HNO.out, ?_⟩
        exact below_put3 (thenB HBC.out HB2.out) (by have := HLT.out; have := HZB.out; have := HB0.out.size; omega) _ _ _
    · have hkk : k = nm := by omega
      subst hkk
      have HM1 : Hid (missL P W.must a (a + W.len) = []) := Lib.hid (by have := HMK.out; rw [← HNM.out, List.take_length] at this; rw [HLN.out]; exact this)
      have HBW := Lib.hid (thenB HBC.out HBk.out)
      have HZW : Hid (wC.heap.size ≤ wr.heap.size) := Lib.hid HBk.out.size
      clear HMK
      go_upto_region 9 with fail
      obtain ⟨wD, hwD⟩ : ∃ wD, wr.alloc (.cells #[.int .i64 a, .int .i64 (-1), .slice none 0 0] 45) = wD := ⟨_, rfl⟩
      have hbD : Below wr.heap.size wr wD := by rw [← hwD]; exact (Below.refl _ _).alloc (Nat.le_refl _) _
      have hsD : wr.heap.size < wD.heap.size := by rw [← hwD]; simp
      have HX0 : Hid (SlBx wD wr.heap.size a (-1) (.slice none 0 0)) := Lib.hid (by rw [← hwD]; exact SlBx.new _ _ _ _)
      obtain ⟨zD, hzD⟩ : ∃ z, wr.heap.size = z := ⟨_, rfl⟩
      have HBD := Lib.hid (HBk.out.trans (hbD.mono HBk.out.size))
      have HBWD := Lib.hid (thenB HBW.out hbD)
      rw [hzD] at HX0 hsD HZW
      have HSD := Lib.hid hsD
      try simp only [hzD, hwD]
      obtain ⟨-, -, f5, -⟩ := HC.out wD HBD.out
      clear hbD hsD hwD hzD
      obtain ⟨i0, hi0, hz0, hz1, hz2⟩ := info_parts int_infoB
      go_upto_region 10 with fail
      clear f5
      go_loopw [46] (fun c wr => ∃ (k : Nat) (v : Value), c = .int .i64 (k : Int) ∧ k ≤ ns ∧ Hid (SlBx wr zD a (-1) v) ∧ Hid (IntL wr wD.heap.size v (missL P (W.should.take k) a (a + ln))) ∧ Hid (Below zD wD wr) ∧ Hid (Below wC.heap.size wC wr)) (fun c _ => ns - (intOf c).toNat)
      case atStart => exact ⟨0, _, rfl, by omega, HX0, Lib.hid (IntL.nil _ _), Lib.hid (Below.refl _ _), HBD⟩
      case round =>
        obtain ⟨k, v, rfl, hk, HX, HV, HBk2, HBc⟩ := hrel
        by_cases hkn : k < ns
        · have hk' : k < W.should.length := by rw [HNS.out]; exact hkn
          obtain ⟨am, rfl, hcm⟩ := (HS.out.call HBc.out).at hk'
          have HTK := Lib.hid (missL_take (P := P) hk' a (a + ln))
          have hx := HWH.out (W.should.getD k 0) (List.mem_append.2 (.inr (at_mem hk')))
          obtain ⟨x, hxx⟩ : ∃ x, W.should.getD k 0 = x := ⟨_, rfl⟩
          rw [hxx] at hcm hx HTK
          obtain ⟨xn, hxn⟩ : ∃ n : Nat, x = n := ⟨x.toNat, by omega⟩
          subst hxn
          obtain ⟨ap, oc, c, rfl, hcp, hiv⟩ := (HP.out.call HBc.out).at (k := xn) (by rw [HNP.out]; omega)
          have hln := HLP.out (P.getD xn []) (by rw [List.getD_eq_getElem?_getD, List.getElem?_eq_getElem (show xn < P.length by rw [HNP.out]; omega)]; exact List.getElem_mem _)
          rw [Int.toNat_natCast] at HTK
          obtain ⟨Lx, hLx⟩ : ∃ L, P.getD xn [] = L := ⟨_, rfl⟩
          rw [hLx] at hcp hiv hln HTK
          have CN := Lib.hid (fun w0 (hb : Below wr.heap.size wr w0) => can_any _ Lx a (a + ln) w0 (hiv.call hb) (by omega))
          obtain ⟨nx, hnx⟩ : ∃ n, Lx.length = n := ⟨_, rfl⟩
          rw [hnx] at hcp CN hln
          have k1 : (k : Int) < (ns : Int) := by omega
          have k2 : (0 : Int) ≤ (k : Int) := by omega
          have k3 : (xn : Int) < (np : Int) := by omega
          have k4 : (0 : Int) ≤ (xn : Int) := by omega
          have HZr : Hid (zD < wr.heap.size) := Lib.hid (Nat.lt_of_lt_of_le HSD.out HBk2.out.size)
          clear hxx hLx hnx hiv hx hln
          cases hq : canB Lx a (a + ln) with
          | true =>
            rw [hq] at CN HTK
            have HTK2 : Hid (missL P (W.should.take (k + 1)) a (a + ln) = missL P (W.should.take k) a (a + ln)) := Lib.hid (by rw [HTK.out]; simp)
            clear hq
            go_wp2_with (go_at_call 40; refine (CN.out _ (Below.refl _ _)).mono ?_; rintro e w2 ⟨rfl, hb2⟩; have HX2 := Lib.hid (HX.out.call hb2 HZr.out); have HV2 := Lib.hid (HV.out.call hb2); have HB2 := Lib.hid (HBk2.out.trans (hb2.mono (Nat.le_of_lt HZr.out))); have HB3 := Lib.hid (HBc.out.trans (hb2.mono HBc.out.size)); clear hb2)
            go_roundw
            case rel => exact ⟨k + 1, v, by go_num, by omega, HX2, Lib.hid (by rw [HTK2.out]; exact HV2.out), HB2, HB3⟩
            case measure => simp [intOf]; omega
          | false =>
            rw [hq] at CN HTK
            have HTK2 : Hid (missL P (W.should.take (k + 1)) a (a + ln) = missL P (W.should.take k) a (a + ln) ++ [(xn : Int)]) := Lib.hid (by rw [HTK.out]; simp)
            obtain ⟨ML, hML⟩ : ∃ L, missL P (W.should.take k) a (a + ln) = L := ⟨_, rfl⟩
            have hmlen := missL_len P (W.should.take k) a (a + ln)
            rw [List.length_take] at hmlen
            rw [hML] at HV HTK2 hmlen
            obtain ⟨ov, cv, rfl⟩ := HV.out.form
            obtain ⟨q, hqq⟩ : ∃ q, ML.length = q := ⟨_, rfl⟩
            have HQ := Lib.hid hqq
            rw [hqq] at HV HX hmlen
            have hmq : q ≤ 10000000 := by omega
            clear hq hML hqq hmlen
            go_wp2_with (first
              | (go_at_call 40; refine (CN.out _ (Below.refl _ _)).mono ?_; rintro e w2 ⟨rfl, hb2⟩; have HX2 := Lib.hid (HX.out.call hb2 HZr.out); have HV2 := Lib.hid (HV.out.call hb2); have HB2 := Lib.hid (HBk2.out.trans (hb2.mono (Nat.le_of_lt HZr.out))); have HB3 := Lib.hid (HBc.out.trans (hb2.mono HBc.out.size)); have HZ2 := Lib.hid (Nat.lt_of_lt_of_le HZr.out hb2.size); have HD2 := Lib.hid (Nat.le_trans HBk2.out.size hb2.size); have x2 := HX2.out.c2; have x3 := HX2.out.f2; clear hb2)
              | (at_builtin; refine wpList_append_lies _ rfl (.tmp 59) (.tmp 61) 23 rfl wD.heap.size 3 i0 (.int .i64 0) 1 8 Tryd.underlying23 hi0 hz0 hz1 hz2 rfl (by decide) _ q (intV ML) rfl ((show World.ownsRow _ _ _ _ _ q _ by have h := HV2.out; unfold IntL at h; rw [HQ.out] at h; exact h).alloc _) _ 1 1 [.int .i64 (xn : Int)] rfl rfl (cells_ivs (by simp) _ _) (by simp [Value.oneCell']) (by decide) (by unfold maxLen; omega) (by omega) (by have h5 := HD2.out; simp; omega) (w2.heap.size + 1) (by simp) ?_; intro g5 c5 w5 hown hgrow hat hlt5; have HOW := Lib.hid hown; have hb5 : Below (zD + 1) w2 w5 := ((Below.refl (zD + 1) w2).alloc HZ2.out _).grown hgrow (by have := HZ2.out; simp; omega) (fun k hk => by have h1 := (World.ownsRow.lt HV2.out k hk).1; have h2 := HSD.out; omega); have HX5 := Lib.hid (HX2.out.call hb5 (Nat.lt_succ_self _)); have HB5 := Lib.hid hb5; have y2 := HX5.out.c2; have y3 := HX5.out.f2; have HG5 := Lib.hid (World.ownsRow.lt hown g5 rfl).1; have hbc : Below wC.heap.size w2 w5 := hb5.mono (by have := HZW.out; omega); have HB6 := Lib.hid (HB3.out.trans hbc); clear hown hgrow hat hlt5 hb5 hbc x2 x3))
            go_roundw
            case rel => exact ⟨k + 1, _, by go_num, by omega, Lib.hid (HX5.out.set2 _), Lib.hid (by rw [HTK2.out]; exact IntL.far (l := ML ++ [(xn : Int)]) (by unfold IntL; rw [List.length_append, HQ.out, intV_snoc]; exact HOW.out) (by have := HSD.out; show zD < _; omega) _), Lib.hid ((HB2.out.trans (HB5.out.mono (Nat.le_succ _))).setCell (p := ⟨zD, 2, none⟩) (Nat.le_refl _) _), Lib.hid (HB6.out.setCell (p := ⟨zD, 2, none⟩) (by have := HZW.out; show _ ≤ zD; omega) _)⟩
            case measure => simp [intOf]; omega
        · have hkk : k = ns := by omega
          subst hkk
          have HV0 : Hid (IntL wr wD.heap.size v (missL P W.should a (a + ln))) := Lib.hid (by have := HV.out; rwa [← HNS.out, List.take_length] at this)
          have hmlen := missL_len P W.should a (a + ln)
          obtain ⟨ML, hML⟩ : ∃ L, missL P W.should a (a + ln) = L := ⟨_, rfl⟩
          have HML := Lib.hid hML
          rw [hML] at HV0 hmlen
          rw [HNS.out] at hmlen
          obtain ⟨ov, cv, rfl⟩ := HV0.out.form
          obtain ⟨q, hqq⟩ : ∃ q, ML.length = q := ⟨_, rfl⟩
          have HQ : Hid ((sortL ML).length = q) := Lib.hid ((sortL_len ML).trans hqq)
          have HQ0 := Lib.hid hqq
          rw [hqq] at HV0 HX hmlen
          have hmq : q ≤ 10000000 := by omega
          have HZr : Hid (zD < wr.heap.size) := Lib.hid (Nat.lt_of_lt_of_le HSD.out HBk2.out.size)
          have x2 := HX.out.c2
          obtain ⟨-, -, -, f6⟩ := HC.out wr HBc.out
          have HC6 : Hid (∀ w', Below wC.heap.size wC w' → w'.cell? ⟨w.heap.size, 6, none⟩ = some (.int .i64 se)) := Lib.hid fun w' hb => (HC.out w' hb).2.2.2
          clear HV hML hqq hmlen f6
          go_upto_region 16 with (go_at_call 34; refine (sort_any _ _ _ _ HV0.out (by rw [HQ0.out]; omega)).mono ?_; rintro e w3 ⟨rfl, hs3, hg3⟩; have HS3 := Lib.hid hs3; have hb3 : Below (zD + 1) wr w3 := (Below.refl (zD + 1) wr).grown hg3 (by have := HZr.out; omega) (fun k hk => by have h1 := (World.ownsRow.lt HV0.out k hk).1; have h2 := HSD.out; omega); have HX3 := Lib.hid (HX.out.call hb3 (Nat.lt_succ_self _)); have HB3 := Lib.hid (HBk2.out.trans (hb3.mono (Nat.le_succ _))); have HBc3 := Lib.hid (HBc.out.trans (hb3.mono (by have := HZW.out; omega))); have HB4 := Lib.hid hb3.size; clear hs3 hg3 hb3)
          clear x2
          have f6 := HC6.out w3 HBc3.out
          have HW3 := Lib.hid (thenB HBC.out HBc3.out)
          by_cases hse0 : se = 0
          · subst hse0
            have HYES : Hid (slotR W P R a = some (-1, sortL ML)) := Lib.hid (by unfold slotR; rw [if_pos HM1.out, if_pos HSE.out, HLN.out, HML.out])
            have x0 := HX3.out.c0
            have x1 := HX3.out.c1
            have x2 := HX3.out.c2
            have hr2 := HR0.out.call HBc3.out (by have := HSC.out; have := HZB.out; omega)
            have HR2 := Lib.hid hr2
            have r0 := hr2.c0
            have r1 := hr2.c1
            have r2 := hr2.c2
            have q0 := hr2.f0
            have q1 := hr2.f1
            have q2 := hr2.f2
            clear hr2
            go_wp2_with fail
            have HF := HR2.out.put a (-1) (.slice ov q cv)
            have hzz : w.heap.size ≤ zB := by have := HZB.out; have := HB0.out.size; omega
            have hzd : zB < wD.heap.size := by have h1 := HZB.out; have h2 := HSC.out; have h3 := HZW.out; have h4 := HSD.out; omega
            refine bodyPost_ret (v := .tuple #[.agg #[.int .i64 a, .int .i64 (-1), .slice ov q cv], .bool true]) (by simp [results, Tryd.results30, go_sem, HF.c0, HF.c1, HF.c2]) rfl ?_
            unfold SlotPost
            refine ⟨a, -1, .slice ov q cv, sortL ML, true, rfl, ?_, by rw [HQ.out]; exact hmq, fun _ => ⟨rfl, HYES.out⟩, fun h => (by cases h), below_put3 HW3.out hzz _ _ _⟩
            exact IntL.low (IntL.far (IntL.far (IntL.far HS3.out (p := ⟨zB, 0, none⟩) hzd _) (p := ⟨zB, 1, none⟩) hzd _) (p := ⟨zB, 2, none⟩) hzd _) (by have := HBWD.out.size; exact this)
          · have hse1 : 1 ≤ se := by omega
            have bse : (se == 0) = false := by simpa using hse0
            go_upto_region 19 with fail
            clear f6 bse
            go_loopw [74] (fun c wr => ∃ k : Nat, c = .int .i64 (k : Int) ∧ k ≤ nr ∧ Hid (SlBx wr zD a (roomF R se a (a + ln) k) (.slice ov q cv)) ∧ Hid (IntL wr wD.heap.size (.slice ov q cv) (sortL ML)) ∧ Hid (Below zD w3 wr) ∧ Hid (Below wC.heap.size wC wr)) (fun c _ => nr - (intOf c).toNat)
            case atStart => exact ⟨0, rfl, by omega, HX3, HS3, Lib.hid (Below.refl _ _), HBc3⟩
            case round =>
              obtain ⟨k, rfl, hk, HXr, HVr, HBr, HBcr⟩ := hrel
              have HZr3 : Hid (zD < wr.heap.size) := Lib.hid (Nat.lt_of_lt_of_le HZr.out (Nat.le_trans HB4.out HBr.out.size))
              have rb := roomF_bd R se a (a + ln) k
              by_cases hkn : k < nr
              · have hk' : k < R.length := by rw [HNR.out]; exact hkn
                obtain ⟨ar, oc, c, rfl, hc0, hc1, hiv⟩ := (HR.out.call HBcr.out).at hk'
                have hlx := HLR.out (R.getD k rm0) (by rw [List.getD_eq_getElem?_getD, List.getElem?_eq_getElem hk']; exact List.getElem_mem _)
                have HTA := Lib.hid (fun h => roomF_take (R := R) (se := se) (a := a) (b := a + ln) (k := k) h)
                have HTK := Lib.hid (fun h => roomF_keep (R := R) (se := se) (a := a) (b := a + ln) (k := k) h)
                have HCL := Lib.hid (fun h => candB_low (R := R) (se := se) (a := a) (b := a + ln) (k := k) h)
                have HCA := Lib.hid (fun h => candB_at (R := R) (se := se) (a := a) (b := a + ln) (k := k) h)
                have HRM : Hid (∀ j : Nat, j < k → ∃ Sj, (R.getD j rm0).1 = Sj ∧ wr.cell? (ar.add (j * 2)) = some (.int .i64 Sj)) := Lib.hid fun j hj => by
                  obtain ⟨ar', oc', c', e, h0, -, -⟩ := (HR.out.call HBcr.out).at (k := j) (by omega)
                  cases e
                  exact ⟨_, rfl, h0⟩
                obtain ⟨Sk, hSk⟩ : ∃ S, (R.getD k rm0).1 = S := ⟨_, rfl⟩
                obtain ⟨Lx, hLx⟩ : ∃ L, (R.getD k rm0).2 = L := ⟨_, rfl⟩
                rw [hLx] at hc1 hiv hlx HCA
                rw [hSk] at hc0 HTA HTK HCL HCA
                obtain ⟨nx, hnx⟩ : ∃ n, Lx.length = n := ⟨_, rfl⟩
                have HIV := Lib.hid hiv
                have HLX := Lib.hid hlx
                rw [hnx] at hc1 HIV
                obtain ⟨r, hr⟩ : ∃ r, roomF R se a (a + ln) k = r := ⟨_, rfl⟩
                rw [hr] at HXr HTA HTK rb
                have k1 : (k : Int) < (nr : Int) := by omega
                have k2 : (0 : Int) ≤ (k : Int) := by omega
                clear hSk hLx hnx hr hlx hiv
                go_upto_region 21 with fail
                obtain ⟨wA, hwA⟩ : ∃ W, wr.alloc (.cells #[.int .i64 Sk, .slice oc nx c] 65) = W := ⟨_, rfl⟩
                obtain ⟨zA, hzA⟩ : ∃ z, wr.heap.size = z := ⟨_, rfl⟩
                have hbA : Below wr.heap.size wr wA := by rw [← hwA]; exact (Below.refl _ _).alloc (Nat.le_refl _) _
                have r0 : wA.cell? ⟨zA, 0, none⟩ = some (.int .i64 Sk) := by rw [← hwA, ← hzA]; simp
                have r1 : wA.cell? ⟨zA, 1, none⟩ = some (.slice oc nx c) := by rw [← hwA, ← hzA]; simp
                have HXA := Lib.hid (HXr.out.call hbA HZr3.out)
                have HVA := Lib.hid (HVr.out.call hbA)
                have HBA := Lib.hid (HBr.out.trans (hbA.mono (Nat.le_of_lt HZr3.out)))
                have HBcA := Lib.hid (HBcr.out.trans (hbA.mono HBcr.out.size))
                have HZA := Lib.hid (Nat.lt_of_lt_of_le HZr3.out hbA.size)
                have CN := Lib.hid (fun w0 (hb : Below wA.heap.size wA w0) => can_any _ Lx a (a + ln) w0 ((HIV.out.call hbA).call hb) (by have := HLX.out; omega))
                have HRA : Hid (∀ j : Nat, j < k → ∃ Sj, (R.getD j rm0).1 = Sj ∧ wA.cell? (ar.add (j * 2)) = some (.int .i64 Sj)) := Lib.hid fun j hj => by
                  obtain ⟨Sj, h1, h2⟩ := HRM.out j hj
                  exact ⟨Sj, h1, (hbA.cell (World.block_lt_of_cell? _ _ h2)).trans h2⟩
                try simp only [hwA, hzA]
                clear hbA hwA hzA hc0 hc1
                have f6 := HC6.out wA HBcA.out
                have d1 := HXA.out.c1
                obtain ⟨TB, hTB⟩ : ∃ b : Bool, decide (candB R se a (a + ln) k = true ∧ (r < 0 ∨ Sk < (R.getD r.toNat rm0).1)) = b := ⟨_, rfl⟩
                have HTB := Lib.hid hTB
                have g6 := cell_regrown f6
                have g1 := cell_regrown d1
                have s0 := cell_regrown r0
                have s1 := cell_regrown r1
                clear hTB f6 d1 r0 r1
                go_cut [106] from 79 to 105 (fun q wx => q = .bool TB ∧ Hid (Below wA.heap.size wA wx))
                case first =>
                  by_cases h1 : se ≤ Sk
                  · have ec := HCA.out h1
                    cases hq : canB Lx a (a + ln) with
                    | false =>
                      have eT : TB = false := by rw [← HTB.out, ec, hq]; simp
                      subst eT
                      rw [hq] at CN
                      clear ec hq
                      refine wp_region_below (by kernel_rfl) (by kernel_rfl) ?_
                      repeat (go_big_quiet_step ((go_at_call 40; exact Calls.regrown_of (by with_reducible exact CN.out _ (below_regrown _ _ _)))))
                      refine wpQuiet_nil ?_
                      intro w1 hb1
                      go_wp2_with fail
                      go_meet
                      exact ⟨rfl, Lib.hid hb1⟩
                    | true =>
                      rw [hq] at CN
                      rw [hq] at ec
                      by_cases h2 : r < 0
                      · have eT : TB = true := by rw [← HTB.out]; exact decide_eq_true ⟨ec, .inl h2⟩
                        subst eT
                        clear ec hq
                        refine wp_region_below (by kernel_rfl) (by kernel_rfl) ?_
                        repeat (go_big_quiet_step ((go_at_call 40; exact Calls.regrown_of (by with_reducible exact CN.out _ (below_regrown _ _ _)))))
                        refine wpQuiet_nil ?_
                        intro w1 hb1
                        go_wp2_with fail
                        go_meet
                        exact ⟨rfl, Lib.hid hb1⟩
                      · obtain ⟨rn, hrn⟩ : ∃ n : Nat, r = n := ⟨r.toNat, by omega⟩
                        subst hrn
                        obtain ⟨Sj, hSj, hcj⟩ := HRA.out rn (by omega)
                        have t1 := cell_regrown hcj
                        have eT : TB = decide (Sk < Sj) := by rw [← HTB.out, ec, Int.toNat_natCast, hSj]; simp; omega
                        subst eT
                        have dr : decide ((rn : Int) < 0) = false := decide_eq_false h2
                        have k5 : (rn : Int) < (nr : Int) := by omega
                        have k6 : (0 : Int) ≤ (rn : Int) := by omega
                        clear ec hq hSj hcj
                        refine wp_region_below (by kernel_rfl) (by kernel_rfl) ?_
                        repeat (go_big_quiet_step ((go_at_call 40; exact Calls.regrown_of (by with_reducible exact CN.out _ (below_regrown _ _ _)))))
                        refine wpQuiet_nil ?_
                        intro w1 hb1
                        go_wp2_with fail
                        go_meet
                        exact ⟨rfl, Lib.hid hb1⟩
                  · have ec := HCL.out h1
                    have eT : TB = false := by rw [← HTB.out, ec]; simp
                    subst eT
                    have ds : decide (se ≤ Sk) = false := decide_eq_false h1
                    clear ec s1
                    refine wp_region_below (by kernel_rfl) (by kernel_rfl) ?_
                    repeat (go_big_quiet_step ((go_at_call 40; exact Calls.regrown_of (by with_reducible exact CN.out _ (below_regrown _ _ _)))))
                    refine wpQuiet_nil ?_
                    intro w1 hb1
                    go_wp2_with fail
                    go_meet
                    exact ⟨rfl, Lib.hid hb1⟩
                case rest =>
                  obtain ⟨rfl, HBX⟩ := hcut
                  have HXc := Lib.hid (HXA.out.call HBX.out HZA.out)
                  have HVc := Lib.hid (HVA.out.call HBX.out)
                  have HBc5 := Lib.hid (HBA.out.trans (HBX.out.mono (Nat.le_of_lt HZA.out)))
                  have HBc6 := Lib.hid (HBcA.out.trans (HBX.out.mono HBcA.out.size))
                  clear g6 g1 s0 s1
                  cases TB with
                  | true =>
                    have HRT := Lib.hid (HTA.out (of_decide_eq_true HTB.out))
                    have x1 := HXc.out.c1
                    have y1 := HXc.out.f1
                    go_wp2_with fail
                    clear x1 y1
                    go_roundw
                    case rel => exact ⟨k + 1, by go_num, by omega, Lib.hid (by rw [HRT.out]; exact HXc.out.set1 _), Lib.hid (HVc.out.far (p := ⟨zD, 1, none⟩) HSD.out _), Lib.hid (HBc5.out.setCell (p := ⟨zD, 1, none⟩) (Nat.le_refl _) _), Lib.hid (HBc6.out.setCell (p := ⟨zD, 1, none⟩) (by have := HZW.out; show _ ≤ zD; omega) _)⟩
                    case measure => simp [intOf]; omega
                  | false =>
                    have HRK := Lib.hid (HTK.out (of_decide_eq_false HTB.out))
                    go_wp2_with fail
                    go_roundw
                    case rel => exact ⟨k + 1, by go_num, by omega, Lib.hid (by rw [HRK.out]; exact HXc.out), HVc, HBc5, HBc6⟩
                    case measure => simp [intOf]; omega
              · have hkk : k = nr := by omega
                subst hkk
                obtain ⟨r, hr⟩ : ∃ r, roomF R se a (a + ln) k = r := ⟨_, rfl⟩
                have HRR : Hid (roomF R se a (a + ln) R.length = r) := Lib.hid (by rw [HNR.out]; exact hr)
                rw [hr] at HXr rb
                clear hr
                have x0 := HXr.out.c0
                have x1 := HXr.out.c1
                have x2 := HXr.out.c2
                have HZ8 : Hid (zB < wC.heap.size) := Lib.hid (by have := HSC.out; have := HZB.out; omega)
                have HWr := Lib.hid (thenB HBC.out HBcr.out)
                have hzz : w.heap.size ≤ zB := by have := HZB.out; have := HB0.out.size; omega
                have hzd : zB < wD.heap.size := by have h1 := HZB.out; have h2 := HSC.out; have h3 := HZW.out; have h4 := HSD.out; omega
                have HQ2 : Hid (0 ≤ r → slotR W P R a = some (r, sortL ML)) := Lib.hid fun h => by unfold slotR; rw [if_pos HM1.out, HSE.out, HLN.out, if_neg hse0, HRR.out, if_pos h, HML.out]
                have HQ3 : Hid (¬ 0 ≤ r → slotR W P R a = none) := Lib.hid fun h => by unfold slotR; rw [if_pos HM1.out, HSE.out, HLN.out, if_neg hse0, HRR.out, if_neg h]
                go_upto_region 24 with fail
                have HR2 := Lib.hid (HR0.out.call HBcr.out HZ8.out)
                have r0 := HR2.out.c0
                have r1 := HR2.out.c1
                have r2 := HR2.out.c2
                have q0 := HR2.out.f0
                have q1 := HR2.out.f1
                have q2 := HR2.out.f2
                have nz : zB ≠ zD := by have h1 := HZ8.out; have h2 := HZW.out; omega
                have S0 : Hid (wr.cell? ⟨zD, 0, none⟩ = some (.int .i64 a) ∧ wr.cell? ⟨zD, 1, none⟩ = some (.int .i64 r) ∧ wr.cell? ⟨zD, 2, none⟩ = some (.slice ov q cv)) := Lib.hid ⟨x0, x1, x2⟩
                have S1 : Hid (∀ c0 c1 c2, (((wr.setCell ⟨zB, 0, none⟩ c0).setCell ⟨zB, 1, none⟩ c1).setCell ⟨zB, 2, none⟩ c2).cell? ⟨zD, 0, none⟩ = some (.int .i64 a) ∧ (((wr.setCell ⟨zB, 0, none⟩ c0).setCell ⟨zB, 1, none⟩ c1).setCell ⟨zB, 2, none⟩ c2).cell? ⟨zD, 1, none⟩ = some (.int .i64 r) ∧ (((wr.setCell ⟨zB, 0, none⟩ c0).setCell ⟨zB, 1, none⟩ c1).setCell ⟨zB, 2, none⟩ c2).cell? ⟨zD, 2, none⟩ = some (.slice ov q cv)) := Lib.hid fun c0 c1 c2 =>
                  have k : ∀ j, (((wr.setCell ⟨zB, 0, none⟩ c0).setCell ⟨zB, 1, none⟩ c1).setCell ⟨zB, 2, none⟩ c2).cell? ⟨zD, j, none⟩ = wr.cell? ⟨zD, j, none⟩ := fun j => (World.cell?_setCell_far _ ⟨zB, 2, none⟩ ⟨zD, j, none⟩ _ nz).trans ((World.cell?_setCell_far _ ⟨zB, 1, none⟩ ⟨zD, j, none⟩ _ nz).trans (World.cell?_setCell_far _ ⟨zB, 0, none⟩ ⟨zD, j, none⟩ _ nz))
                  ⟨(k 0).trans x0, (k 1).trans x1, (k 2).trans x2⟩
                go_region_held3 (fun w' => w'.cell? ⟨zD, 0, none⟩ = some (.int .i64 a) ∧ w'.cell? ⟨zD, 1, none⟩ = some (.int .i64 r) ∧ w'.cell? ⟨zD, 2, none⟩ = some (.slice ov q cv)) (first | with_reducible exact S0.out | with_reducible exact S1.out _ _ _ | (simp only [World.cell?_drew]; first | with_reducible exact S0.out | with_reducible exact S1.out _ _ _)) (fail)
                clear x0 x1 x2 r0 r1 r2 q0 q1 q2
                go_wp2_with fail
                have HF := (HR2.out.put a r (.slice ov q cv)).drew
                refine bodyPost_ret (v := .tuple #[.agg #[.int .i64 a, .int .i64 r, .slice ov q cv], .bool (decide (0 ≤ r))]) (by simp [results, Tryd.results30, go_sem, HF.c0, HF.c1, HF.c2]) rfl ?_
                unfold SlotPost
                refine ⟨a, r, .slice ov q cv, sortL ML, decide (0 ≤ r), rfl, ?_, by rw [HQ.out]; exact hmq, fun h => ⟨rfl, HQ2.out (of_decide_eq_true h)⟩, fun h => HQ3.out (by have := of_decide_eq_false h; omega), below_drew (below_put3 HWr.out hzz _ _ _)⟩
                exact (IntL.low (IntL.far (IntL.far (IntL.far HVr.out (p := ⟨zB, 0, none⟩) hzd _) (p := ⟨zB, 1, none⟩) hzd _) (p := ⟨zB, 2, none⟩) hzd _) (by have := HBWD.out.size; exact this)).call (below_drew (Below.refl _ _))
end Go.Proofs.YtbmndenopgkpoaaDoor
