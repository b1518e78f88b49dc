/- The document's readLine. -/
import Derived.Test.YtidgahnamdhflaaDoorPsxG
namespace Go.Proofs.YtidgahnamdhflaaDoor
open Go.RowKit Go.Shelf Fld Prt Psx
theorem upTo_fst (q cs : ByteArray) (w : World) (hs : q.size ≤ 1099511627776) (h8 : cs.size ≤ 8) : Calls Tryd.prog 64 #[.string q, .string cs] w fun e w' => e = .returned (.int .i64 (fstI (fstOf q.data.toList cs.data.toList))) ∧ Below w.heap.size w w' := by
  refine (upTo_any q cs w hs h8).mono ?_
  rintro e w' ⟨rfl, hb⟩
  rw [indexAny_fst]
  exact ⟨rfl, hb⟩
/-- What readLine answers. -/
def RLnPost (l : List UInt8) (w : World) (e : Ending) (w' : World) : Prop :=
  ((lnP l).1 = 0 → ∃ u, e = .returned (.tuple #[.agg #[.string (lnP l).2.name, u, .string (lnP l).2.value], .int .i64 0]) ∧ QPrm (fun b => w.heap.size ≤ b ∧ b < w'.heap.size) w' u (lnP l).2.prms) ∧
  ((lnP l).1 ≠ 0 → ∃ nm oa n c vl, e = .returned (.tuple #[.agg #[.string nm, .slice oa n c, .string vl], .int .i64 (lnP l).1])) ∧ Below w.heap.size w w'
theorem RLnPost.bad {l : List UInt8} {w w' : World} {x : Int} {nm vl : ByteArray} {oa : Option Addr} {n c : Nat} (h : (lnP l).1 = x) (hx : x ≠ 0) (hb : Below w.heap.size w w') : RLnPost l w (.returned (.tuple #[.agg #[.string nm, .slice oa n c, .string vl], .int .i64 x])) w' :=
  ⟨fun h0 => absurd (h.symm.trans h0) hx, fun _ => ⟨nm, oa, n, c, vl, by rw [h]⟩, hb⟩
/-- A param under way: it lies where w1 ended. -/
def XS (w1 : World) (X1 : Nat) (G : ByteArray) (v : Value) (acc : List (List UInt8)) (x : World) : Prop :=
  Below X1 w1 x ∧ (w1.heap.size = X1 ∧ X1 < x.heap.size) ∧ (x.cell? ⟨X1, 0, none⟩ = some (.string G) ∧ x.cell? ⟨X1, 1, none⟩ = some v ∧ x.frozen? ⟨X1, 1, none⟩ = false) ∧ StrL x (X1 + 1) v acc
section
variable {w1 : World} {X1 : Nat} {G V : ByteArray} {v v3 : Value} {acc : List (List UInt8)} {x x' x3 : World} {o : Obj}
theorem XS.call (h : XS w1 X1 G v acc x) (hb : Below x.heap.size x x') : XS w1 X1 G v acc x' := by
  obtain ⟨h1, ⟨h2, h3⟩, ⟨b1, b2, b3⟩, h4⟩ := h
  exact ⟨h1.trans (hb.mono (Nat.le_of_lt h3)), ⟨h2, Nat.lt_of_lt_of_le h3 hb.size⟩, ⟨(hb.cell (p := ⟨X1, 0, none⟩) h3).trans b1, (hb.cell (p := ⟨X1, 1, none⟩) h3).trans b2, (hb.frozen (p := ⟨X1, 1, none⟩) h3).trans b3⟩, h4.call hb⟩
theorem XS.facts (h : XS w1 X1 G v acc x) : X1 < x.heap.size ∧ x.cell? ⟨X1, 0, none⟩ = some (.string G) ∧ x.cell? ⟨X1, 1, none⟩ = some v ∧ x.frozen? ⟨X1, 1, none⟩ = false := ⟨h.2.1.2, h.2.2.1⟩
theorem XS.form (h : XS w1 X1 G v acc x) : ∃ oa cap, v = .slice oa acc.length cap := StrL.form h.2.2.2
theorem XS.form1 {V : List UInt8} (h : XS w1 X1 G v (acc ++ [V]) x) : ∃ oa cap, v = .slice oa (acc.length + 1) cap := by
  have := h.form
  rw [List.length_append, List.length_singleton] at this
  exact this
theorem XS.below (h : XS w1 X1 G v acc x) : Below w1.heap.size w1 x := by rw [h.2.1.1]; exact h.1
theorem XS.q (h : XS w1 X1 G v acc x) : QStr (fun b => w1.heap.size ≤ b ∧ b < x.heap.size) x v (acc.map bs) := strL_q h.2.2.2 fun g g1 g2 => ⟨by have := h.2.1.1; omega, g2⟩
theorem XS.start (w1 : World) (G : ByteArray) : XS w1 w1.heap.size G (.slice none 0 0) [] (w1.alloc (.cells #[.string G, .slice none 0 0] 66)) :=
  ⟨(Below.refl _ _).alloc (Nat.le_refl _) _, ⟨rfl, by simp⟩, ⟨by simp, by simp, by simp⟩, World.ownsRow_nil _ _ _ _⟩
theorem XS.after (h : XS w1 X1 G v acc x) (hg : (x.alloc o).grownBy x3 v.ownBlock) : X1 < x3.heap.size ∧ x3.cell? ⟨X1, 1, none⟩ = some v ∧ x3.frozen? ⟨X1, 1, none⟩ = false := by
  obtain ⟨h1, ⟨h2, h3⟩, ⟨b1, b2, b3⟩, h4⟩ := h
  have kb : x3.heap[X1]? = x.heap[X1]? := by
    rw [hg.block X1 (by simp; omega) (fun e => by have := (World.ownsRow.lt h4 X1 e.symm).1; omega)]
    show (x.heap.push o)[X1]? = _
    rw [Array.getElem?_push_lt (by omega), Array.getElem?_eq_getElem]
  exact ⟨Nat.lt_of_lt_of_le (by simp; omega) hg.size, (World.cell?_of_block (w := x) (a := ⟨X1, 1, none⟩) kb).trans b2, by unfold World.frozen? at b3 ⊢; rw [kb]; exact b3⟩
/-- One value more. -/
theorem XS.more (h : XS w1 X1 G v acc x) (hown : World.ownsRow x3 (X1 + 1) 9 1 v3 (acc.length + 1) (strV acc ++ [.string V])) (hg : (x.alloc o).grownBy x3 v.ownBlock) : XS w1 X1 G v3 (acc ++ [V.data.toList]) (x3.setCell ⟨X1, 1, none⟩ v3) := by
  obtain ⟨h1, ⟨h2, h3⟩, ⟨b1, b2, b3⟩, h4⟩ := h
  have hlt := fun k hk => World.ownsRow.lt h4 k hk
  have kb : ∀ k, k < X1 + 1 → x3.heap[k]? = x.heap[k]? := fun k hk => by
    have h5 := hg.block k (by simp; omega) (fun e => by have := (hlt k e.symm).1; omega)
    rw [h5]
    show (x.heap.push o)[k]? = _
    rw [Array.getElem?_push_lt (by omega), Array.getElem?_eq_getElem]
  have hsz : x.heap.size < x3.heap.size := Nat.lt_of_lt_of_le (by simp) hg.size
  have kc : ∀ (p : Addr), p.block < X1 + 1 → x3.cell? p = x.cell? p := fun p hp => World.cell?_of_block (kb _ hp)
  have kf : ∀ (p : Addr), p.block < X1 + 1 → x3.frozen? p = x.frozen? p := fun p hp => by unfold World.frozen?; rw [kb _ hp]
  have h6 : Below X1 w1 x3 := (h1.alloc (Nat.le_of_lt h3) o).grown hg (by simp; omega) (fun k hk => by have := (hlt k hk).1; omega)
  refine ⟨h6.setCell (p := ⟨X1, 1, none⟩) (Nat.le_refl _) _, ⟨h2, by simp [World.setCell]; omega⟩, ⟨?_, ?_, ?_⟩, ?_⟩
  · rw [World.cell?_setCell_other _ _ _ _ (by simp)]; exact (kc ⟨X1, 0, none⟩ (Nat.lt_succ_self _)).trans b1
  · exact World.cell?_setCell_same _ _ _ ((kc ⟨X1, 1, none⟩ (Nat.lt_succ_self _)).trans b2)
  · rw [show (x3.setCell ⟨X1, 1, none⟩ v3).frozen? ⟨X1, 1, none⟩ = x3.frozen? ⟨X1, 1, none⟩ by simp]; exact (kf ⟨X1, 1, none⟩ (Nat.lt_succ_self _)).trans b3
  · unfold StrL
    rw [List.length_append, List.length_singleton, strV_snoc]
    exact row_far hown (p := ⟨X1, 1, none⟩) (fun k hk => by have := (World.ownsRow.lt hown k hk).1; show k ≠ X1; omega) _
end
/-- What is left of a param: values come, or its end is reached. -/
def StU (V : Int × List (List UInt8) × List UInt8) (r : List UInt8) (b : Bool) (acc : List (List UInt8)) (g : Nat) : Prop :=
  (b = true ∧ V = valsP (g + 1) acc r) ∨ (b = false ∧ V = (0, acc, r) ∧ r.head? ≠ some 44)
theorem StU.next {V : Int × List (List UInt8) × List UInt8} {s v r : List UInt8} {acc : List (List UInt8)} {g : Nat} (h : V = valsP (g + 2) acc s) (hv : valP s.tail = ⟨0, v, r⟩) (h2 : r.head? = some 44) : StU V r true (acc ++ [v]) g := .inl ⟨rfl, by rw [h, valsP_go hv h2]⟩
theorem StU.last {V : Int × List (List UInt8) × List UInt8} {s v r : List UInt8} {acc : List (List UInt8)} {g : Nat} (h : V = valsP (g + 2) acc s) (hv : valP s.tail = ⟨0, v, r⟩) (h2 : r.head? = some 59 ∨ r.head? = some 58) : StU V r false (acc ++ [v]) g := by
  have h3 : r.head? ≠ some 44 := fun e => by rw [e] at h2; rcases h2 with h2 | h2 <;> cases h2
  exact .inr ⟨rfl, by rw [h, valsP_end hv h3]; exact if_pos h2, h3⟩
theorem valsP_stop {V : Int × List (List UInt8) × List UInt8} {s v r : List UInt8} {acc : List (List UInt8)} {g : Nat} (h : V = valsP (g + 2) acc s) (hv : valP s.tail = ⟨0, v, r⟩) (h1 : r.head? ≠ some 44) (h2 : r.head? ≠ some 59) (h3 : r.head? ≠ some 58) : V.1 = 5 := by
  rw [h, valsP_end hv h1]; exact endV_bad h2 h3
theorem cleanQ_of {l : List UInt8} (h1 : l.any ctl = false) (h2 : (l.any (· == 34)) = false) : cleanQ l = true := by
  unfold cleanQ
  rw [List.all_eq_true]
  intro c hc
  rw [List.any_eq_false] at h1 h2
  have a := h1 c hc
  have b := h2 c hc
  simp at a b
  simp [a, b]
theorem cleanQ_ctl {l : List UInt8} (h : l.any ctl = true) : cleanQ l = false := by
  obtain ⟨c, hc, h⟩ := List.any_eq_true.1 h
  unfold cleanQ
  rw [List.all_eq_false]
  exact ⟨c, hc, by simp [h]⟩
theorem cleanQ_q {l : List UInt8} (h : (l.any (· == 34)) = true) : cleanQ l = false := by
  obtain ⟨c, hc, h⟩ := List.any_eq_true.1 h
  unfold cleanQ
  rw [List.all_eq_false]
  have h := eq_of_beq h
  exact ⟨c, hc, by simp [h]⟩
theorem ext_head {s : ByteArray} {j : Nat} (h : j < s.size) : (s.extract j s.size).data.toList.head? = some s[j] := by
  rw [ext_tail, List.head?_drop]; exact getE_list s j h
theorem ext_next (s : ByteArray) (j : Nat) : (s.extract (j + 1) s.size).data.toList = (s.extract j s.size).data.toList.tail := by
  rw [ext_tail, ext_tail, List.tail_drop]
theorem ext_len {s : ByteArray} {j : Nat} : (s.extract j s.size).size = s.size - j := by rw [ByteArray.size_extract]; omega
theorem fst_one {c : UInt8} {cs : List UInt8} : fstOf [c] cs = if cs.contains c then some 0 else none := by
  rw [fstOf_cons, fstOf_nil]; split <;> rfl
theorem three_not {c : UInt8} (h1 : c ≠ 44) (h2 : c ≠ 59) (h3 : c ≠ 58) : ([44, 59, 58] : List UInt8).contains c = false := by
  simp [h1, h2, h3]
theorem three_yes {c : UInt8} (h : c = 44 ∨ c = 59 ∨ c = 58) : ([44, 59, 58] : List UInt8).contains c = true := by
  rcases h with rfl | rfl | rfl <;> rfl
set_option maxRecDepth 100000 in
set_option maxHeartbeats 32000000 in
theorem readLine_any (s : ByteArray) (w : World) (hs : s.size ≤ 1048576) :
    Calls Tryd.prog 42 #[.string s] w (RLnPost s.data.toList w) := by
  have hI := fun w0 => upTo_fst s ⟨#[59, 58]⟩ w0 (by omega) (by decide)
  cases h61 : fstOf s.data.toList [59, 58] with
  | none =>
    rw [show (⟨#[59, 58]⟩ : ByteArray).data.toList = [59, 58] from rfl, h61] at hI
    have CI : Hid (∀ w0, Calls Tryd.prog 64 #[.string s, .string ⟨#[59, 58]⟩] w0 fun e w' => e = .returned (.int .i64 (-1)) ∧ Below w0.heap.size w0 w') := Lib.hid hI
    have HE := Lib.hid (lnP_none h61)
    clear hI h61
    go_enter Tryd.func42, Tryd.ntmps42
    go_wp2_with (go_at_call 64; refine (CI.out _).mono ?_; rintro e w1 ⟨rfl, hb⟩; have HB := Lib.hid (ln_zero hb).1; have hz := (ln_zero hb).2; obtain ⟨f0, a1, a2, a3, a4, a5, a6⟩ := hz; clear hb)
    have hq : LnS2 w w1 := ⟨HB.out, a1, a3, a5⟩
    obtain ⟨hq1, hq2, hq3, hq4⟩ := hq.fin
    exact bodyPost_ret (v := .tuple #[.agg #[.string ⟨#[]⟩, .slice none 0 0, .string ⟨#[]⟩], .int .i64 5]) (by simp [results, Tryd.results42, go_sem, hq1, hq2, hq3]) rfl (RLnPost.bad HE.out (by decide) hq4)
  | some i =>
    rw [show (⟨#[59, 58]⟩ : ByteArray).data.toList = [59, 58] from rfl, h61] at hI
    have hil : i < s.size := by have := fstOf_lt h61; rwa [len_eq] at this
    have CI : Hid (∀ w0, Calls Tryd.prog 64 #[.string s, .string ⟨#[59, 58]⟩] w0 fun e w' => e = .returned (.int .i64 (i : Int)) ∧ Below w0.heap.size w0 w') := Lib.hid hI
    obtain ⟨G, hG⟩ : ∃ G, bs (greatL (s.data.toList.take i)) = G := ⟨_, rfl⟩
    have CG : Hid (∀ w0, Calls Tryd.prog 43 #[.string (s.extract 0 i)] w0 fun e w' => e = .returned (.string G) ∧ Below w0.heap.size w0 w') := Lib.hid fun w0 => by
      have h := rgreat_any (s.extract 0 i) w0 (by rw [ByteArray.size_extract]; omega)
      rw [ext_to, hG] at h
      exact h
    have hGl : G.data.toList = greatL (s.data.toList.take i) := by rw [← hG]; rfl
    have hGs : G.size ≤ 1048576 := by rw [← len_eq, hGl, greatL_len, List.length_take, len_eq]; omega
    have CN : Hid (∀ w0, Calls Tryd.prog 37 #[.string G] w0 fun e w' => e = .returned (.bool (nameB G.data.toList)) ∧ w0 = w') := Lib.hid fun w0 => partName_any G w0 (by omega)
    have k0 : (0 : Int) ≤ (i : Int) := by omega
    have k1 : (i : Int) ≤ (s.size : Int) := by omega
    have k2 : ¬ (i : Int) < 0 := by omega
    clear hI hG
    cases hN : nameB G.data.toList with
    | false =>
      rw [hN] at CN
      have HE := Lib.hid (lnP_name h61 (by rw [← hGl]; exact hN))
      clear hN h61 hGl
      go_enter Tryd.func42, Tryd.ntmps42
      go_wp2_with (first
        | (go_at_call 64; refine (CI.out _).mono ?_; rintro e w1 ⟨rfl, hb⟩; have HZ := Lib.hid hb; have hz := (ln_zero hb).2; obtain ⟨f0, a1, a2, a3, a4, a5, a6⟩ := hz; clear hb)
        | (go_at_call 43; refine (CG.out _).mono ?_; rintro e w2 ⟨rfl, hb⟩; have HP1 := Lib.hid (ln_start G (thenB HZ.out hb)); clear hb HZ f0 a1 a2 a3 a4 a5 a6; obtain ⟨⟨f0, f1⟩, ⟨a1, a2, a3, a4, a5, a6⟩, b1, b2, b3, b4, b5⟩ := HP1.out.facts)
        | (go_at_call 37; refine (CN.out _).mono ?_; rintro e w3 ⟨rfl, rfl⟩))
      have HQ := Lib.hid (HP1.out.fin rfl)
      have hq1 := HQ.out.1
      have hq2 := HQ.out.2.1
      have hq3 := HQ.out.2.2.1
      exact bodyPost_ret (v := .tuple #[.agg #[.string G, .slice none 0 0, .string ⟨#[]⟩], .int .i64 8]) (by simp [results, Tryd.results42, go_sem, hq1, hq2, hq3]) rfl (RLnPost.bad HE.out (by decide) HQ.out.2.2.2.1)
    | true =>
      rw [hN] at CN
      obtain ⟨V0, hV0⟩ : ∃ V, prmsP (s.data.toList.length + 1) [] (s.data.toList.drop i) = V := ⟨_, rfl⟩
      have hpv := lnP_prms h61 (by rw [← hGl]; exact hN) hV0
      rw [← hGl, bs_of] at hpv
      have HPV := Lib.hid hpv
      have HV0 : Hid (V0 = prmsP (s.size + 1) [] (s.extract i s.size).data.toList) := Lib.hid (by rw [ext_tail, ← hV0, len_eq])
      clear hN h61 hGl hpv hV0
      go_enter Tryd.func42, Tryd.ntmps42
      go_wp2_with (first
        | (go_at_call 64; refine (CI.out _).mono ?_; rintro e w1 ⟨rfl, hb⟩; have HZ := Lib.hid hb; have hz := (ln_zero hb).2; obtain ⟨f0, a1, a2, a3, a4, a5, a6⟩ := hz; clear hb)
        | (go_at_call 43; refine (CG.out _).mono ?_; rintro e w2 ⟨rfl, hb⟩; have HP2 := Lib.hid (ln_start G (thenB HZ.out hb)); clear hb HZ f0 a1 a2 a3 a4 a5 a6)
        | (go_at_call 37; refine (CN.out _).mono ?_; rintro e w3 ⟨rfl, rfl⟩))
      obtain ⟨X0, hX0⟩ : ∃ X, w2.heap.size = X := ⟨_, rfl⟩
      rw [hX0] at HP2 ⊢
      clear hX0
      obtain ⟨i0, hi0, hz0, hz1, hz2⟩ := info_parts3 prm_info
      obtain ⟨i1, hi1, hy0, hy1, hy2⟩ := info_parts str_info
      go_loopw [0, 4] (fun a c wr => ∃ (S : ByteArray) (j : Nat) (l : List (Prm × Value)) (v : Value) (g : Nat), a = .string S ∧ c = .int .i64 (j : Int) ∧ j < S.size ∧ S.size ≤ s.size ∧ l.length + (S.size - j) ≤ s.size ∧ S.size - j ≤ g ∧ Hid (LnS w X0 G ⟨#[]⟩ v l wr) ∧ Hid (V0 = prmsP (g + 1) (l.map Prod.fst) (S.extract j S.size).data.toList)) (fun a c _ => match a with | .string r => r.size - (intOf c).toNat | _ => 0)
      case atStart => exact ⟨s, i, [], .slice none 0 0, s.size, rfl, rfl, hil, Nat.le_refl _, by simp, by omega, HP2, HV0⟩
      case round =>
        clear HP2 HV0 k0 k1 k2 CI CG CN
        obtain ⟨S, j, l, v, g, rfl, rfl, hj, hS, hacc, hg, HP, HST⟩ := hrel
        obtain ⟨wA, rfl⟩ : ∃ wo : World, wo = wr := ⟨_, rfl⟩
        obtain ⟨oa, cap, rfl⟩ := HP.out.form
        obtain ⟨⟨f0, f1⟩, ⟨a1, a2, a3, a4, a5, a6⟩, b1, b2, b3, b4, b5⟩ := HP.out.facts
        obtain ⟨g', rfl⟩ : ∃ g', g = g' + 1 := ⟨g - 1, by omega⟩
        obtain ⟨T, hT⟩ : ∃ T, S.extract (j + 1) S.size = T := ⟨_, rfl⟩
        have hTl : T.data.toList = (S.extract j S.size).data.toList.tail := by rw [← hT, ext_next]
        have hTs : T.size + (j + 1) ≤ S.size ∧ S.size ≤ T.size + (j + 1) := by have h : T.size = S.size - (j + 1) := (by rw [← hT, ext_len]); omega
        have j0 : (0 : Int) ≤ (j : Int) := by omega
        have j1 : (j : Int) < (S.size : Int) := by omega
        have j2 : (0 : Int) ≤ (j : Int) + 1 := by omega
        have j3 : ((j : Int) + 1).toNat = j + 1 := by omega
        have j4 : (j : Int) + 1 ≤ (S.size : Int) := by omega
        have j5 : IntKind.i64.wrap ((j : Int) + 1) = (j : Int) + 1 := IntWalk.i64_in _ (by omega)
        have hH := ext_head hj
        by_cases h59 : S[j] = 59
        · have c1 := byte_lit (s := S) (i := j) (h := hj) h59 59 rfl
          have hhd : (S.extract j S.size).data.toList.head? = some 59 := by rw [hH, h59]
          have hI := fun w0 => upTo_fst T ⟨#[61]⟩ w0 (by omega) (by decide)
          rw [show (⟨#[61]⟩ : ByteArray).data.toList = [61] from rfl] at hI
          clear h59 hH
          cases h61 : fstOf T.data.toList [61] with
          | none =>
            rw [h61] at hI
            have CI : Hid (∀ w0, Calls Tryd.prog 64 #[.string T, .string ⟨#[61]⟩] w0 fun e w' => e = .returned (.int .i64 (-1)) ∧ Below w0.heap.size w0 w') := Lib.hid hI
            have HE : Hid ((lnP s.data.toList).1 = 5) := Lib.hid (by
              have h2 : (prmP T.data.toList).1 = 5 := prmP_none h61
              have h1 : V0.1 = 5 := by rw [HST.out, prmsP_bad hhd (by rw [← hTl, h2]; decide), ← hTl, h2]
              rw [HPV.out.1 (by rw [h1]; decide), h1])
            clear hI h61 HST hTl hhd HPV
            go_wp2_with (go_at_call 64; refine (CI.out _).mono ?_; rintro e w3 ⟨rfl, hb⟩; have HP3 := Lib.hid (HP.out.call hb); clear hb f0 f1 a1 a2 a3 a4 a5 a6 b1 b2 b3 b4 b5; obtain ⟨⟨f0, f1⟩, ⟨a1, a2, a3, a4, a5, a6⟩, b1, b2, b3, b4, b5⟩ := HP3.out.facts)
            have HQ := Lib.hid (HP3.out.fin rfl)
            have hq1 := HQ.out.1
            have hq2 := HQ.out.2.1
            have hq3 := HQ.out.2.2.1
            exact bodyPost_ret (v := .tuple #[.agg #[.string G, .slice oa l.length cap, .string ⟨#[]⟩], .int .i64 5]) (by simp [results, Tryd.results42, go_sem, hq1, hq2, hq3]) rfl (RLnPost.bad HE.out (by decide) HQ.out.2.2.2.1)
          | some i2 =>
            rw [h61] at hI
            have hil2 : i2 < T.size := by have := fstOf_lt h61; rwa [len_eq] at this
            have CI : Hid (∀ w0, Calls Tryd.prog 64 #[.string T, .string ⟨#[61]⟩] w0 fun e w' => e = .returned (.int .i64 (i2 : Int)) ∧ Below w0.heap.size w0 w') := Lib.hid hI
            obtain ⟨K, hK⟩ : ∃ K, bs (greatL (T.data.toList.take i2)) = K := ⟨_, rfl⟩
            have CG : Hid (∀ w0, Calls Tryd.prog 43 #[.string (T.extract 0 i2)] w0 fun e w' => e = .returned (.string K) ∧ Below w0.heap.size w0 w') := Lib.hid fun w0 => by
              have h := rgreat_any (T.extract 0 i2) w0 (by rw [ByteArray.size_extract]; omega)
              rw [ext_to, hK] at h
              exact h
            have hKl : K.data.toList = greatL (T.data.toList.take i2) := by rw [← hK]; rfl
            have hKs : K.size ≤ 1048576 := by rw [← len_eq, hKl, greatL_len, List.length_take, len_eq]; omega
            have CN : Hid (∀ w0, Calls Tryd.prog 37 #[.string K] w0 fun e w' => e = .returned (.bool (nameB K.data.toList)) ∧ w0 = w') := Lib.hid fun w0 => partName_any K w0 (by omega)
            have k0 : (0 : Int) ≤ (i2 : Int) := by omega
            have k1 : (i2 : Int) ≤ (T.size : Int) := by omega
            have k2 : ¬ (i2 : Int) < 0 := by omega
            clear hI hK
            cases hN : nameB K.data.toList with
            | false =>
              rw [hN] at CN
              have HE : Hid ((lnP s.data.toList).1 = 8) := Lib.hid (by
                have h2 : (prmP T.data.toList).1 = 8 := prmP_name h61 (by rw [← hKl]; exact hN)
                have h1 : V0.1 = 8 := by rw [HST.out, prmsP_bad hhd (by rw [← hTl, h2]; decide), ← hTl, h2]
                rw [HPV.out.1 (by rw [h1]; decide), h1])
              clear hN h61 HST hTl hhd HPV hKl
              go_wp2_with (first
                | (go_at_call 64; refine (CI.out _).mono ?_; rintro e w3 ⟨rfl, hb⟩; have HP3 := Lib.hid (HP.out.call hb); clear hb f0 f1 a1 a2 a3 a4 a5 a6 b1 b2 b3 b4 b5)
                | (go_at_call 43; refine (CG.out _).mono ?_; rintro e w4 ⟨rfl, hb⟩; have HP4 := Lib.hid (HP3.out.call hb); clear hb; have HP5 := Lib.hid (HP4.out.call (XS.start w4 K).below); obtain ⟨⟨f0, f1⟩, ⟨a1, a2, a3, a4, a5, a6⟩, b1, b2, b3, b4, b5⟩ := HP5.out.facts)
                | (go_at_call 37; refine (CN.out _).mono ?_; rintro e w5 ⟨rfl, rfl⟩))
              have HQ := Lib.hid (HP5.out.fin rfl)
              have hq1 := HQ.out.1
              have hq2 := HQ.out.2.1
              have hq3 := HQ.out.2.2.1
              exact bodyPost_ret (v := .tuple #[.agg #[.string G, .slice oa l.length cap, .string ⟨#[]⟩], .int .i64 8]) (by simp [results, Tryd.results42, go_sem, hq1, hq2, hq3]) rfl (RLnPost.bad HE.out (by decide) HQ.out.2.2.2.1)
            | true =>
              rw [hN] at CN
              obtain ⟨V, hV⟩ : ∃ V, valsP (T.data.toList.length + 1) [] (T.data.toList.drop i2) = V := ⟨_, rfl⟩
              have hpm := prmP_vals h61 (by rw [← hKl]; exact hN)
              rw [hV] at hpm
              have HBAD : Hid (V.1 = 5 → (lnP s.data.toList).1 = 5) := Lib.hid fun h => by
                have h2 : (prmP T.data.toList).1 = 5 := (hpm.1 (by rw [h]; decide)).trans h
                have h1 : V0.1 = 5 := by rw [HST.out, prmsP_bad hhd (by rw [← hTl, h2]; decide), ← hTl, h2]
                rw [HPV.out.1 (by rw [h1]; decide), h1]
              have HOK : Hid (V.1 = 0 → V0 = prmsP (g' + 1) (l.map Prod.fst ++ [⟨K, V.2.1.map bs⟩]) V.2.2) := Lib.hid fun h => by
                have h2 : prmP T.data.toList = (0, ⟨K, V.2.1.map bs⟩, V.2.2) := by rw [hpm.2 h, ← hKl, bs_of]
                rw [HST.out, prmsP_go hhd (by rw [← hTl, h2]), ← hTl, h2]
              have HV1 : Hid (StU V (T.extract i2 T.size).data.toList true [] T.size) := Lib.hid (.inl ⟨rfl, by rw [ext_tail, ← hV, len_eq]⟩)
              have HM := Lib.hid (show T.size < S.size - j by omega)
              have HS := Lib.hid hS
              have HAC := Lib.hid hacc
              have HG := Lib.hid hg
              have hTz : T.size ≤ s.size := by omega
              clear hN h61 hKl hpm hV HST hTl hhd hS
              go_wp2_with (first
                | (go_at_call 64; refine (CI.out _).mono ?_; rintro e w3 ⟨rfl, hb⟩; have HP3 := Lib.hid (HP.out.call hb); clear hb f0 f1 a1 a2 a3 a4 a5 a6 b1 b2 b3 b4 b5)
                | (go_at_call 43; refine (CG.out _).mono ?_; rintro e w4 ⟨rfl, hb⟩; have HP4 := Lib.hid (HP3.out.call hb); clear hb; have HX4 := Lib.hid (XS.start w4 K))
                | (go_at_call 37; refine (CN.out _).mono ?_; rintro e w5 ⟨rfl, rfl⟩))
              obtain ⟨X1, hX1⟩ : ∃ X, w4.heap.size = X := ⟨_, rfl⟩
              rw [hX1] at HX4 ⊢
              clear HP HP3 CI CG CN k0 k1 k2
              go_loopw [0, 4, 7] (fun a c m wr => ∃ (R : ByteArray) (k : Nat) (b : Bool) (acc : List (List UInt8)) (u : Value) (g : Nat), a = .string R ∧ c = .int .i64 (k : Int) ∧ m = .bool b ∧ k < R.size ∧ R.size ≤ T.size ∧ acc.length + (R.size - k) ≤ T.size ∧ R.size - k ≤ g ∧ R.size - k ≤ T.size - i2 ∧ Hid (XS w4 X1 K u acc wr) ∧ Hid (StU V (R.extract k R.size).data.toList b acc g)) (fun a c _ _ => match a with | .string r => r.size - (intOf c).toNat | _ => 0)
              case atStart => exact ⟨T, i2, true, [], .slice none 0 0, T.size, rfl, rfl, rfl, hil2, Nat.le_refl _, by simp, by omega, Nat.le_refl _, HX4, HV1⟩
              case round =>
                clear HX4 HV1
                obtain ⟨R, k, b, acc, u, h, rfl, rfl, rfl, hk, hR, hac2, hkh, hki, HX, HSU⟩ := hrel
                obtain ⟨wB, rfl⟩ : ∃ wo : World, wo = wr := ⟨_, rfl⟩
                obtain ⟨ua, uc, rfl⟩ := HX.out.form
                obtain ⟨d0, d1, d2, d3⟩ := HX.out.facts
                have HPB := Lib.hid (HP4.out.call HX.out.below)
                obtain ⟨⟨f0, f1⟩, ⟨a1, a2, a3, a4, a5, a6⟩, b1, b2, b3, b4, b5⟩ := HPB.out.facts
                rcases HSU.out with ⟨rfl, hVv⟩ | ⟨rfl, hVv, hne⟩
                · obtain ⟨U, hU⟩ : ∃ U, R.extract (k + 1) R.size = U := ⟨_, rfl⟩
                  have hUl : U.data.toList = (R.extract k R.size).data.toList.tail := by rw [← hU, ext_next]
                  have hUs : U.size + (k + 1) ≤ R.size ∧ R.size ≤ U.size + (k + 1) := by have h : U.size = R.size - (k + 1) := (by rw [← hU, ext_len]); omega
                  obtain ⟨h', rfl⟩ : ∃ h', h = h' + 1 := ⟨h - 1, by omega⟩
                  have k0 : (0 : Int) ≤ (k : Int) := by omega
                  have k1 : (k : Int) < (R.size : Int) := by omega
                  have k2 : (0 : Int) ≤ (k : Int) + 1 := by omega
                  have k3 : ((k : Int) + 1).toNat = k + 1 := by omega
                  have k4 : (k : Int) + 1 ≤ (R.size : Int) := by omega
                  have k5 : IntKind.i64.wrap ((k : Int) + 1) = (k : Int) + 1 := IntWalk.i64_in _ (by omega)
                  by_cases hU0 : U.data.toList = []
                  · have hemp : U.toList.isEmpty = true := by rw [Lib.toList_data, hU0]; rfl
                    have hVb : V.1 = 5 := by rw [hVv]; exact valsP_bad (by rw [← hUl, hU0]; rfl)
                    have HE := Lib.hid (HBAD.out hVb)
                    have CU : Hid (∀ w0, Calls Tryd.prog 64 #[.string U, .string ⟨#[44, 59, 58]⟩] w0 fun e w' => e = .returned (.int .i64 (-1)) ∧ Below w0.heap.size w0 w') := Lib.hid fun w0 => by
                      have := upTo_fst U ⟨#[44, 59, 58]⟩ w0 (by omega) (by decide)
                      rw [hU0] at this
                      exact this
                    clear hVb hVv HSU hU0 hUl
                    go_wp2_with (first
                      | (go_at_call 64; (with_reducible refine (CU.out _).mono ?_); rintro e' w5 ⟨rfl, hb⟩; have HXC := Lib.hid (HX.out.call hb); have HPC := Lib.hid (HPB.out.call hb); clear hb d0 d1 d2 d3 f0 f1 a1 a2 a3 a4 a5 a6 b1 b2 b3 b4 b5; obtain ⟨d0, d1, d2, d3⟩ := HXC.out.facts; obtain ⟨⟨f0, f1⟩, ⟨a1, a2, a3, a4, a5, a6⟩, b1, b2, b3, b4, b5⟩ := HPC.out.facts))
                    have HQ := Lib.hid (HPC.out.fin rfl)
                    have hq1 := HQ.out.1
                    have hq2 := HQ.out.2.1
                    have hq3 := HQ.out.2.2.1
                    exact bodyPost_ret (v := .tuple #[.agg #[.string G, .slice oa l.length cap, .string ⟨#[]⟩], .int .i64 5]) (by simp [results, Tryd.results42, go_sem, hq1, hq2, hq3]) rfl (RLnPost.bad HE.out (by decide) HQ.out.2.2.2.1)
                  · have hne := not_empty hU0
                    have hUp : 0 < U.size := by rw [← len_eq]; exact List.length_pos_iff.2 hU0
                    have hUz : (0 : Int) < (U.size : Int) := by omega
                    have hUh := head_get hUp
                    by_cases hq34 : U[0] = 34
                    · have q34 := byte_lit (s := U) (i := 0) (h := hUp) hq34 34 rfl
                      have hh34 : U.data.toList.head? = some 34 := by rw [hUh, hq34]
                      obtain ⟨Y, hY⟩ : ∃ Y, U.extract 1 U.size = Y := ⟨_, rfl⟩
                      have hYl : Y.data.toList = U.data.toList.tail := by rw [← hY, tail_list]
                      have hYs : Y.size + 1 ≤ U.size ∧ U.size ≤ Y.size + 1 := by have h : Y.size = U.size - 1 := (by rw [← len_eq, hYl, List.length_tail, len_eq]); omega
                      have y1 : (1 : Int) ≤ (U.size : Int) := by omega
                      have hIU := fun w0 => upTo_fst Y ⟨#[34]⟩ w0 (by omega) (by decide)
                      rw [show (⟨#[34]⟩ : ByteArray).data.toList = [34] from rfl] at hIU
                      clear hq34 hUh hU0
                      cases hfo : fstOf Y.data.toList [34] with
                      | none =>
                        rw [hfo] at hIU
                        have CU : Hid (∀ w0, Calls Tryd.prog 64 #[.string Y, .string ⟨#[34]⟩] w0 fun e w' => e = .returned (.int .i64 (-1)) ∧ Below w0.heap.size w0 w') := Lib.hid hIU
                        have HE := Lib.hid (HBAD.out (by rw [hVv]; exact valsP_bad (by rw [← hUl]; exact valP_qn hh34 (by rw [← hYl]; exact hfo))))
                        clear hIU hfo hVv HSU hUl hYl hh34
                        go_wp2_with (first
                          | (go_at_call 64; (with_reducible refine (CU.out _).mono ?_); rintro e' w5 ⟨rfl, hb⟩; have HXC := Lib.hid (HX.out.call hb); have HPC := Lib.hid (HPB.out.call hb); clear hb d0 d1 d2 d3 f0 f1 a1 a2 a3 a4 a5 a6 b1 b2 b3 b4 b5; obtain ⟨d0, d1, d2, d3⟩ := HXC.out.facts; obtain ⟨⟨f0, f1⟩, ⟨a1, a2, a3, a4, a5, a6⟩, b1, b2, b3, b4, b5⟩ := HPC.out.facts))
                        have HQ := Lib.hid (HPC.out.fin rfl)
                        have hq1 := HQ.out.1
                        have hq2 := HQ.out.2.1
                        have hq3 := HQ.out.2.2.1
                        exact bodyPost_ret (v := .tuple #[.agg #[.string G, .slice oa l.length cap, .string ⟨#[]⟩], .int .i64 5]) (by simp [results, Tryd.results42, go_sem, hq1, hq2, hq3]) rfl (RLnPost.bad HE.out (by decide) HQ.out.2.2.2.1)
                      | some e =>
                        rw [hfo] at hIU
                        have heu : e < Y.size := by have := fstOf_lt hfo; rwa [len_eq] at this
                        have CU : Hid (∀ w0, Calls Tryd.prog 64 #[.string Y, .string ⟨#[34]⟩] w0 fun e' w' => e' = .returned (.int .i64 (e : Int)) ∧ Below w0.heap.size w0 w') := Lib.hid hIU
                        obtain ⟨Z, hZ⟩ : ∃ Z, U.extract 1 (e + 1) = Z := ⟨_, rfl⟩
                        have hZl : Z.data.toList = U.data.toList.tail.take e := by rw [← hZ, ext_list, List.drop_one]; simp
                        obtain ⟨n, hn⟩ : ∃ n, e + 2 = n := ⟨_, rfl⟩
                        have hRl : (U.extract n U.size).data.toList = U.data.toList.tail.drop (e + 1) := by rw [← hn, ext_tail, ← List.drop_one, List.drop_drop]; congr 1; omega
                        have e0 : ¬ (e : Int) < 0 := by omega
                        have e1 : (0 : Int) ≤ (e : Int) + 1 := by omega
                        have e2 : ((e : Int) + 1).toNat = e + 1 := by omega
                        have e3 : (e : Int) + 1 ≤ (U.size : Int) := by omega
                        have e4 : (1 : Int) ≤ (e : Int) + 1 := by omega
                        have e5 : IntKind.i64.wrap ((e : Int) + 1) = (e : Int) + 1 := IntWalk.i64_in _ (by omega)
                        have e6 : IntKind.i64.wrap ((e : Int) + 2) = (n : Int) := by (have h : IntKind.i64.wrap ((e : Int) + 2) = (e : Int) + 2 := IntWalk.i64_in _ (by omega)); omega
                        have e7 : (e : Int) + 2 = (n : Int) := by omega
                        have hnU : n ≤ U.size := by omega
                        have hn1 : 1 ≤ n := by omega
                        rw [hYl] at hfo
                        clear hIU hn
                        have hZs : Z.size ≤ 1048576 := by rw [← len_eq, hZl]; simp only [List.length_take, List.length_tail, len_eq]; omega
                        have CC : Hid (∀ w0, Calls Tryd.prog 38 #[.string Z] w0 fun e w' => e = .returned (.bool (Z.data.toList.any ctl)) ∧ w0 = w') := Lib.hid fun w0 => controls_any Z w0 (by omega)
                        have CH : Hid (∀ w0, Calls Tryd.prog 35 #[.string Z, .string ⟨#[34]⟩] w0 fun e w' => e = .returned (.bool (Z.data.toList.any (· == 34))) ∧ w0 = w') := Lib.hid fun w0 => has_any Z 34 w0 (by omega)
                        have n0 : (0 : Int) ≤ (n : Int) := by omega
                        have n1 : (n : Int) ≤ (U.size : Int) := by omega
                        cases hct : Z.data.toList.any ctl with
                        | true =>
                          rw [hct] at CC
                          have HE := Lib.hid (HBAD.out (by rw [hVv]; exact valsP_bad (by rw [← hUl]; exact valP_qb hh34 hfo (.inl (by rw [← hZl]; exact cleanQ_ctl hct)))))
                          clear hfo hVv HSU hUl hh34 hZl hRl hct hYl
                          go_wp2_with (first
                            | (go_at_call 64; (with_reducible refine (CU.out _).mono ?_); rintro e' w5 ⟨rfl, hb⟩; have HXC := Lib.hid (HX.out.call hb); have HPC := Lib.hid (HPB.out.call hb); clear hb d0 d1 d2 d3 f0 f1 a1 a2 a3 a4 a5 a6 b1 b2 b3 b4 b5; obtain ⟨d0, d1, d2, d3⟩ := HXC.out.facts; obtain ⟨⟨f0, f1⟩, ⟨a1, a2, a3, a4, a5, a6⟩, b1, b2, b3, b4, b5⟩ := HPC.out.facts)
                            | (go_at_call 38; refine (CC.out _).mono ?_; rintro e' w7 ⟨rfl, rfl⟩))
                          have HQ := Lib.hid (HPC.out.fin rfl)
                          have hq1 := HQ.out.1
                          have hq2 := HQ.out.2.1
                          have hq3 := HQ.out.2.2.1
                          exact bodyPost_ret (v := .tuple #[.agg #[.string G, .slice oa l.length cap, .string ⟨#[]⟩], .int .i64 5]) (by simp [results, Tryd.results42, go_sem, hq1, hq2, hq3]) rfl (RLnPost.bad HE.out (by decide) HQ.out.2.2.2.1)
                        | false =>
                          rw [hct] at CC
                          cases hqu : Z.data.toList.any (· == 34) with
                          | true =>
                            rw [hqu] at CH
                            have HE := Lib.hid (HBAD.out (by rw [hVv]; exact valsP_bad (by rw [← hUl]; exact valP_qb hh34 hfo (.inl (by rw [← hZl]; exact cleanQ_q hqu)))))
                            clear hfo hVv HSU hUl hh34 hZl hRl hct hqu hYl
                            go_wp2_with (first
                              | (go_at_call 64; (with_reducible refine (CU.out _).mono ?_); rintro e' w5 ⟨rfl, hb⟩; have HXC := Lib.hid (HX.out.call hb); have HPC := Lib.hid (HPB.out.call hb); clear hb d0 d1 d2 d3 f0 f1 a1 a2 a3 a4 a5 a6 b1 b2 b3 b4 b5; obtain ⟨d0, d1, d2, d3⟩ := HXC.out.facts; obtain ⟨⟨f0, f1⟩, ⟨a1, a2, a3, a4, a5, a6⟩, b1, b2, b3, b4, b5⟩ := HPC.out.facts)
                              | (go_at_call 38; refine (CC.out _).mono ?_; rintro e' w7 ⟨rfl, rfl⟩)
                              | (go_at_call 35; refine (CH.out _).mono ?_; rintro e' w8 ⟨rfl, rfl⟩))
                            have HQ := Lib.hid (HPC.out.fin rfl)
                            have hq1 := HQ.out.1
                            have hq2 := HQ.out.2.1
                            have hq3 := HQ.out.2.2.1
                            exact bodyPost_ret (v := .tuple #[.agg #[.string G, .slice oa l.length cap, .string ⟨#[]⟩], .int .i64 5]) (by simp [results, Tryd.results42, go_sem, hq1, hq2, hq3]) rfl (RLnPost.bad HE.out (by decide) HQ.out.2.2.2.1)
                          | false =>
                            rw [hqu] at CH
                            have hcl := cleanQ_of hct hqu
                            by_cases hnn : n < U.size
                            rotate_left
                            · have hr0 : (U.extract n U.size).data.toList = [] := by rw [ext_tail]; exact List.drop_eq_nil_of_le (by rw [len_eq]; omega)
                              have HE := Lib.hid (HBAD.out (by rw [hVv]; exact valsP_bad (by rw [← hUl]; exact valP_qb hh34 hfo (.inr (by rw [← hRl]; exact hr0)))))
                              have m1 : (U.size : Int) ≤ (n : Int) := by omega
                              have m2 : ¬ (n : Int) < (U.size : Int) := by omega
                              clear hfo hVv HSU hUl hh34 hZl hRl hct hqu hYl hcl hr0
                              go_wp2_with (first
                                | (go_at_call 64; (with_reducible refine (CU.out _).mono ?_); rintro e' w5 ⟨rfl, hb⟩; have HXC := Lib.hid (HX.out.call hb); have HPC := Lib.hid (HPB.out.call hb); clear hb d0 d1 d2 d3 f0 f1 a1 a2 a3 a4 a5 a6 b1 b2 b3 b4 b5; obtain ⟨d0, d1, d2, d3⟩ := HXC.out.facts; obtain ⟨⟨f0, f1⟩, ⟨a1, a2, a3, a4, a5, a6⟩, b1, b2, b3, b4, b5⟩ := HPC.out.facts)
                                | (go_at_call 38; refine (CC.out _).mono ?_; rintro e' w7 ⟨rfl, rfl⟩)
                                | (go_at_call 35; refine (CH.out _).mono ?_; rintro e' w8 ⟨rfl, rfl⟩))
                              have HQ := Lib.hid (HPC.out.fin rfl)
                              have hq1 := HQ.out.1
                              have hq2 := HQ.out.2.1
                              have hq3 := HQ.out.2.2.1
                              exact bodyPost_ret (v := .tuple #[.agg #[.string G, .slice oa l.length cap, .string ⟨#[]⟩], .int .i64 5]) (by simp [results, Tryd.results42, go_sem, hq1, hq2, hq3]) rfl (RLnPost.bad HE.out (by decide) HQ.out.2.2.2.1)
                            · have hrh := ext_head hnn
                              have hvp : valP (R.extract k R.size).data.toList.tail = ⟨0, Z.data.toList, (U.extract n U.size).data.toList⟩ := by rw [← hUl, hZl, hRl]; exact valP_qo hh34 hfo (by rw [← hZl, ← hRl]; exact fun h => h.elim (fun h => absurd (hcl.symm.trans h) (by decide)) (fun h => by rw [h] at hrh; cases hrh))
                              have m1 : ¬ (U.size : Int) ≤ (n : Int) := by omega
                              have m2 : (n : Int) < (U.size : Int) := by omega
                              have m3 : (n : Int) ≤ (n : Int) + 1 := by omega
                              have m4 : ((n : Int) + 1).toNat = n + 1 := by omega
                              have m5 : (n : Int) + 1 ≤ (U.size : Int) := by omega
                              have m6 : IntKind.i64.wrap ((n : Int) + 1) = (n : Int) + 1 := IntWalk.i64_in _ (by omega)
                              have m7 : (0 : Int) ≤ (n : Int) + 1 := by omega
                              have hone := one_ext U n hnn
                              obtain ⟨bb, hbb⟩ : ∃ b, U[n] = b := ⟨_, rfl⟩
                              rw [hbb] at hone
                              have hCE := fun w0 => upTo_fst ⟨#[bb]⟩ ⟨#[44, 59, 58]⟩ w0 (show (1 : Nat) ≤ _ by omega) (by decide)
                              rw [show (⟨#[44, 59, 58]⟩ : ByteArray).data.toList = [44, 59, 58] from rfl, show (⟨#[bb]⟩ : ByteArray).data.toList = [bb] from rfl, fst_one] at hCE
                              clear hfo hh34 hZl hRl hct hqu hcl hYl
                              by_cases h44 : U[n] = 44
                              · have b44 := byte_lit (s := U) (i := n) (h := hnn) h44 44 rfl
                                have CE : Hid (∀ w0, Calls Tryd.prog 64 #[.string ⟨#[bb]⟩, .string ⟨#[44, 59, 58]⟩] w0 fun e w' => e = .returned (.int .i64 ((0 : Nat) : Int)) ∧ Below w0.heap.size w0 w') := Lib.hid fun w0 => by
                                  have := hCE w0
                                  rw [three_yes (by rw [← hbb]; exact .inl h44)] at this
                                  exact this
                                have HNX : Hid (StU V (U.extract n U.size).data.toList true (acc ++ [Z.data.toList]) h') := Lib.hid (StU.next hVv hvp (by rw [hrh, h44]))
                                clear hCE hVv HSU hUl hvp hrh hbb h44
                                go_wp2_with (first
                                  | (go_at_call 64; (with_reducible refine (CU.out _).mono ?_); rintro e' w5 ⟨rfl, hb⟩; have HXC := Lib.hid (HX.out.call hb); have HPC := Lib.hid (HPB.out.call hb); clear hb d0 d1 d2 d3 f0 f1 a1 a2 a3 a4 a5 a6 b1 b2 b3 b4 b5; obtain ⟨d0, d1, d2, d3⟩ := HXC.out.facts; obtain ⟨⟨f0, f1⟩, ⟨a1, a2, a3, a4, a5, a6⟩, b1, b2, b3, b4, b5⟩ := HPC.out.facts)
                                  | (go_at_call 38; refine (CC.out _).mono ?_; rintro e' w7 ⟨rfl, rfl⟩)
                                  | (go_at_call 35; refine (CH.out _).mono ?_; rintro e' w8 ⟨rfl, rfl⟩)
                                  | (go_at_call 64; (with_reducible refine (CE.out _).mono ?_); rintro e' w6 ⟨rfl, hb⟩; replace HXC := Lib.hid (HXC.out.call hb); replace HPC := Lib.hid (HPC.out.call hb); clear hb d0 d1 d2 d3 f0 f1 a1 a2 a3 a4 a5 a6 b1 b2 b3 b4 b5; obtain ⟨d0, d1, d2, d3⟩ := HXC.out.facts; obtain ⟨⟨f0, f1⟩, ⟨a1, a2, a3, a4, a5, a6⟩, b1, b2, b3, b4, b5⟩ := HPC.out.facts)
                                  | (at_builtin; refine wpList_append_own _ rfl (.tmp 107) (.tmp 109) 39 rfl (X1 + 1) 9 i1 (.string ⟨#[]⟩) 1 16 Tryd.underlying39 hi1 hy0 hy1 hy2 rfl (by decide) _ acc.length (strV acc) rfl (World.ownsRow.alloc HXC.out.2.2.2 _) _ 1 1 [.string Z] rfl rfl (cells_at (by simp) _ _) (by simp [Value.oneCell']) (by unfold maxLen; omega) (by omega) (by have := HXC.out.2.1.2; simp at *; omega) ?_; intro v5 w5 hown hgrow _; have HM5 := Lib.hid (HXC.out.more hown hgrow); have hy := HXC.out.after hgrow; obtain ⟨y5, y6, y7⟩ := hy; clear hown hgrow; obtain ⟨oa5, cap5, rfl⟩ := HM5.out.form1))
                                go_roundw
                                case rel => exact ⟨U, n, true, acc ++ [Z.data.toList], _, h', rfl, rfl, rfl, hnn, by omega, by rw [List.length_append, List.length_singleton]; omega, by omega, by omega, HM5, HNX⟩
                                case measure => simp [intOf]; omega
                              · have b44 := byte_not (s := U) (i := n) (h := hnn) h44 44 rfl
                                by_cases hend : U[n] = 59 ∨ U[n] = 58
                                · have CE : Hid (∀ w0, Calls Tryd.prog 64 #[.string ⟨#[bb]⟩, .string ⟨#[44, 59, 58]⟩] w0 fun e w' => e = .returned (.int .i64 ((0 : Nat) : Int)) ∧ Below w0.heap.size w0 w') := Lib.hid fun w0 => by
                                    have := hCE w0
                                    rw [three_yes (by rw [← hbb]; exact .inr hend)] at this
                                    exact this
                                  have HNX : Hid (StU V (U.extract n U.size).data.toList false (acc ++ [Z.data.toList]) h') := Lib.hid (StU.last hVv hvp (by rw [hrh]; exact hend.elim (fun h => .inl (by rw [h])) (fun h => .inr (by rw [h]))))
                                  clear hCE hVv HSU hUl hvp hrh hbb h44 hend
                                  go_wp2_with (first
                                    | (go_at_call 64; (with_reducible refine (CU.out _).mono ?_); rintro e' w5 ⟨rfl, hb⟩; have HXC := Lib.hid (HX.out.call hb); have HPC := Lib.hid (HPB.out.call hb); clear hb d0 d1 d2 d3 f0 f1 a1 a2 a3 a4 a5 a6 b1 b2 b3 b4 b5; obtain ⟨d0, d1, d2, d3⟩ := HXC.out.facts; obtain ⟨⟨f0, f1⟩, ⟨a1, a2, a3, a4, a5, a6⟩, b1, b2, b3, b4, b5⟩ := HPC.out.facts)
                                    | (go_at_call 38; refine (CC.out _).mono ?_; rintro e' w7 ⟨rfl, rfl⟩)
                                    | (go_at_call 35; refine (CH.out _).mono ?_; rintro e' w8 ⟨rfl, rfl⟩)
                                    | (go_at_call 64; (with_reducible refine (CE.out _).mono ?_); rintro e' w6 ⟨rfl, hb⟩; replace HXC := Lib.hid (HXC.out.call hb); replace HPC := Lib.hid (HPC.out.call hb); clear hb d0 d1 d2 d3 f0 f1 a1 a2 a3 a4 a5 a6 b1 b2 b3 b4 b5; obtain ⟨d0, d1, d2, d3⟩ := HXC.out.facts; obtain ⟨⟨f0, f1⟩, ⟨a1, a2, a3, a4, a5, a6⟩, b1, b2, b3, b4, b5⟩ := HPC.out.facts)
                                    | (at_builtin; refine wpList_append_own _ rfl (.tmp 107) (.tmp 109) 39 rfl (X1 + 1) 9 i1 (.string ⟨#[]⟩) 1 16 Tryd.underlying39 hi1 hy0 hy1 hy2 rfl (by decide) _ acc.length (strV acc) rfl (World.ownsRow.alloc HXC.out.2.2.2 _) _ 1 1 [.string Z] rfl rfl (cells_at (by simp) _ _) (by simp [Value.oneCell']) (by unfold maxLen; omega) (by omega) (by have := HXC.out.2.1.2; simp at *; omega) ?_; intro v5 w5 hown hgrow _; have HM5 := Lib.hid (HXC.out.more hown hgrow); have hy := HXC.out.after hgrow; obtain ⟨y5, y6, y7⟩ := hy; clear hown hgrow; obtain ⟨oa5, cap5, rfl⟩ := HM5.out.form1))
                                  go_roundw
                                  case rel => exact ⟨U, n, false, acc ++ [Z.data.toList], _, h', rfl, rfl, rfl, hnn, by omega, by rw [List.length_append, List.length_singleton]; omega, by omega, by omega, HM5, HNX⟩
                                  case measure => simp [intOf]; omega
                                · have CE : Hid (∀ w0, Calls Tryd.prog 64 #[.string ⟨#[bb]⟩, .string ⟨#[44, 59, 58]⟩] w0 fun e w' => e = .returned (.int .i64 (-1)) ∧ Below w0.heap.size w0 w') := Lib.hid fun w0 => by
                                    have := hCE w0
                                    rw [three_not (by rw [← hbb]; exact h44) (by rw [← hbb]; exact fun h => hend (.inl h)) (by rw [← hbb]; exact fun h => hend (.inr h))] at this
                                    exact this
                                  have HE := Lib.hid (HBAD.out (valsP_stop hVv hvp (by rw [hrh]; simpa using h44) (by rw [hrh]; simpa using fun h => hend (.inl h)) (by rw [hrh]; simpa using fun h => hend (.inr h))))
                                  clear hCE hVv HSU hUl hvp hrh hbb h44 hend
                                  go_wp2_with (first
                                    | (go_at_call 64; (with_reducible refine (CU.out _).mono ?_); rintro e' w5 ⟨rfl, hb⟩; have HXC := Lib.hid (HX.out.call hb); have HPC := Lib.hid (HPB.out.call hb); clear hb d0 d1 d2 d3 f0 f1 a1 a2 a3 a4 a5 a6 b1 b2 b3 b4 b5; obtain ⟨d0, d1, d2, d3⟩ := HXC.out.facts; obtain ⟨⟨f0, f1⟩, ⟨a1, a2, a3, a4, a5, a6⟩, b1, b2, b3, b4, b5⟩ := HPC.out.facts)
                                    | (go_at_call 38; refine (CC.out _).mono ?_; rintro e' w7 ⟨rfl, rfl⟩)
                                    | (go_at_call 35; refine (CH.out _).mono ?_; rintro e' w8 ⟨rfl, rfl⟩)
                                    | (go_at_call 64; (with_reducible refine (CE.out _).mono ?_); rintro e' w6 ⟨rfl, hb⟩; replace HXC := Lib.hid (HXC.out.call hb); replace HPC := Lib.hid (HPC.out.call hb); clear hb d0 d1 d2 d3 f0 f1 a1 a2 a3 a4 a5 a6 b1 b2 b3 b4 b5; obtain ⟨d0, d1, d2, d3⟩ := HXC.out.facts; obtain ⟨⟨f0, f1⟩, ⟨a1, a2, a3, a4, a5, a6⟩, b1, b2, b3, b4, b5⟩ := HPC.out.facts))
                                  have HQ := Lib.hid (HPC.out.fin rfl)
                                  have hq1 := HQ.out.1
                                  have hq2 := HQ.out.2.1
                                  have hq3 := HQ.out.2.2.1
                                  exact bodyPost_ret (v := .tuple #[.agg #[.string G, .slice oa l.length cap, .string ⟨#[]⟩], .int .i64 5]) (by simp [results, Tryd.results42, go_sem, hq1, hq2, hq3]) rfl (RLnPost.bad HE.out (by decide) HQ.out.2.2.2.1)
                    · have q34 := byte_not (s := U) (i := 0) (h := hUp) hq34 34 rfl
                      have hh34 : U.data.toList.head? ≠ some 34 := by rw [hUh]; simpa using hq34
                      have hIU := fun w0 => upTo_fst U ⟨#[44, 59, 58]⟩ w0 (by omega) (by decide)
                      rw [show (⟨#[44, 59, 58]⟩ : ByteArray).data.toList = [44, 59, 58] from rfl] at hIU
                      clear hq34 hUh hU0
                      cases hfo : fstOf U.data.toList [44, 59, 58] with
                      | none =>
                        rw [hfo] at hIU
                        have CU : Hid (∀ w0, Calls Tryd.prog 64 #[.string U, .string ⟨#[44, 59, 58]⟩] w0 fun e w' => e = .returned (.int .i64 (-1)) ∧ Below w0.heap.size w0 w') := Lib.hid hIU
                        have HE := Lib.hid (HBAD.out (by rw [hVv]; exact valsP_bad (by rw [← hUl]; exact valP_un hh34 hfo)))
                        clear hIU hfo hVv HSU hUl hh34
                        go_wp2_with (first
                          | (go_at_call 64; (with_reducible refine (CU.out _).mono ?_); rintro e' w5 ⟨rfl, hb⟩; have HXC := Lib.hid (HX.out.call hb); have HPC := Lib.hid (HPB.out.call hb); clear hb d0 d1 d2 d3 f0 f1 a1 a2 a3 a4 a5 a6 b1 b2 b3 b4 b5; obtain ⟨d0, d1, d2, d3⟩ := HXC.out.facts; obtain ⟨⟨f0, f1⟩, ⟨a1, a2, a3, a4, a5, a6⟩, b1, b2, b3, b4, b5⟩ := HPC.out.facts))
                        have HQ := Lib.hid (HPC.out.fin rfl)
                        have hq1 := HQ.out.1
                        have hq2 := HQ.out.2.1
                        have hq3 := HQ.out.2.2.1
                        exact bodyPost_ret (v := .tuple #[.agg #[.string G, .slice oa l.length cap, .string ⟨#[]⟩], .int .i64 5]) (by simp [results, Tryd.results42, go_sem, hq1, hq2, hq3]) rfl (RLnPost.bad HE.out (by decide) HQ.out.2.2.2.1)
                      | some n =>
                        rw [hfo] at hIU
                        have hnn : n < U.size := by have := fstOf_lt hfo; rwa [len_eq] at this
                        have CU : Hid (∀ w0, Calls Tryd.prog 64 #[.string U, .string ⟨#[44, 59, 58]⟩] w0 fun e' w' => e' = .returned (.int .i64 (n : Int)) ∧ Below w0.heap.size w0 w') := Lib.hid hIU
                        obtain ⟨Z, hZ⟩ : ∃ Z, U.extract 0 n = Z := ⟨_, rfl⟩
                        have hZl : Z.data.toList = U.data.toList.take n := by rw [← hZ, ext_to]
                        have hRl : (U.extract n U.size).data.toList = U.data.toList.drop n := ext_tail U n
                        have e0 : ¬ (n : Int) < 0 := by omega
                        clear hIU
                        have hZs : Z.size ≤ 1048576 := by rw [← len_eq, hZl]; simp only [List.length_take, len_eq]; omega
                        have CC : Hid (∀ w0, Calls Tryd.prog 38 #[.string Z] w0 fun e w' => e = .returned (.bool (Z.data.toList.any ctl)) ∧ w0 = w') := Lib.hid fun w0 => controls_any Z w0 (by omega)
                        have CH : Hid (∀ w0, Calls Tryd.prog 35 #[.string Z, .string ⟨#[34]⟩] w0 fun e w' => e = .returned (.bool (Z.data.toList.any (· == 34))) ∧ w0 = w') := Lib.hid fun w0 => has_any Z 34 w0 (by omega)
                        have n0 : (0 : Int) ≤ (n : Int) := by omega
                        have n1 : (n : Int) ≤ (U.size : Int) := by omega
                        cases hct : Z.data.toList.any ctl with
                        | true =>
                          rw [hct] at CC
                          have HE := Lib.hid (HBAD.out (by rw [hVv]; exact valsP_bad (by rw [← hUl]; exact valP_ub hh34 hfo (by rw [← hZl]; exact cleanQ_ctl hct))))
                          clear hfo hVv HSU hUl hh34 hZl hRl hct
                          go_wp2_with (first
                            | (go_at_call 64; (with_reducible refine (CU.out _).mono ?_); rintro e' w5 ⟨rfl, hb⟩; have HXC := Lib.hid (HX.out.call hb); have HPC := Lib.hid (HPB.out.call hb); clear hb d0 d1 d2 d3 f0 f1 a1 a2 a3 a4 a5 a6 b1 b2 b3 b4 b5; obtain ⟨d0, d1, d2, d3⟩ := HXC.out.facts; obtain ⟨⟨f0, f1⟩, ⟨a1, a2, a3, a4, a5, a6⟩, b1, b2, b3, b4, b5⟩ := HPC.out.facts)
                            | (go_at_call 38; refine (CC.out _).mono ?_; rintro e' w7 ⟨rfl, rfl⟩))
                          have HQ := Lib.hid (HPC.out.fin rfl)
                          have hq1 := HQ.out.1
                          have hq2 := HQ.out.2.1
                          have hq3 := HQ.out.2.2.1
                          exact bodyPost_ret (v := .tuple #[.agg #[.string G, .slice oa l.length cap, .string ⟨#[]⟩], .int .i64 5]) (by simp [results, Tryd.results42, go_sem, hq1, hq2, hq3]) rfl (RLnPost.bad HE.out (by decide) HQ.out.2.2.2.1)
                        | false =>
                          rw [hct] at CC
                          cases hqu : Z.data.toList.any (· == 34) with
                          | true =>
                            rw [hqu] at CH
                            have HE := Lib.hid (HBAD.out (by rw [hVv]; exact valsP_bad (by rw [← hUl]; exact valP_ub hh34 hfo (by rw [← hZl]; exact cleanQ_q hqu))))
                            clear hfo hVv HSU hUl hh34 hZl hRl hct hqu
                            go_wp2_with (first
                              | (go_at_call 64; (with_reducible refine (CU.out _).mono ?_); rintro e' w5 ⟨rfl, hb⟩; have HXC := Lib.hid (HX.out.call hb); have HPC := Lib.hid (HPB.out.call hb); clear hb d0 d1 d2 d3 f0 f1 a1 a2 a3 a4 a5 a6 b1 b2 b3 b4 b5; obtain ⟨d0, d1, d2, d3⟩ := HXC.out.facts; obtain ⟨⟨f0, f1⟩, ⟨a1, a2, a3, a4, a5, a6⟩, b1, b2, b3, b4, b5⟩ := HPC.out.facts)
                              | (go_at_call 38; refine (CC.out _).mono ?_; rintro e' w7 ⟨rfl, rfl⟩)
                              | (go_at_call 35; refine (CH.out _).mono ?_; rintro e' w8 ⟨rfl, rfl⟩))
                            have HQ := Lib.hid (HPC.out.fin rfl)
                            have hq1 := HQ.out.1
                            have hq2 := HQ.out.2.1
                            have hq3 := HQ.out.2.2.1
                            exact bodyPost_ret (v := .tuple #[.agg #[.string G, .slice oa l.length cap, .string ⟨#[]⟩], .int .i64 5]) (by simp [results, Tryd.results42, go_sem, hq1, hq2, hq3]) rfl (RLnPost.bad HE.out (by decide) HQ.out.2.2.2.1)
                          | false =>
                            rw [hqu] at CH
                            have hcl := cleanQ_of hct hqu
                            have hrh := ext_head hnn
                            have hvp : valP (R.extract k R.size).data.toList.tail = ⟨0, Z.data.toList, (U.extract n U.size).data.toList⟩ := by rw [← hUl, hZl, hRl]; exact valP_uo hh34 hfo (by rw [← hZl]; exact hcl)
                            have m1 : ¬ (U.size : Int) ≤ (n : Int) := by omega
                            have m2 : (n : Int) < (U.size : Int) := by omega
                            have m3 : (n : Int) ≤ (n : Int) + 1 := by omega
                            have m4 : ((n : Int) + 1).toNat = n + 1 := by omega
                            have m5 : (n : Int) + 1 ≤ (U.size : Int) := by omega
                            have m6 : IntKind.i64.wrap ((n : Int) + 1) = (n : Int) + 1 := IntWalk.i64_in _ (by omega)
                            have m7 : (0 : Int) ≤ (n : Int) + 1 := by omega
                            have hone := one_ext U n hnn
                            obtain ⟨bb, hbb⟩ : ∃ b, U[n] = b := ⟨_, rfl⟩
                            rw [hbb] at hone
                            have hCE := fun w0 => upTo_fst ⟨#[bb]⟩ ⟨#[44, 59, 58]⟩ w0 (show (1 : Nat) ≤ _ by omega) (by decide)
                            rw [show (⟨#[44, 59, 58]⟩ : ByteArray).data.toList = [44, 59, 58] from rfl, show (⟨#[bb]⟩ : ByteArray).data.toList = [bb] from rfl, fst_one] at hCE
                            clear hfo hh34 hZl hRl hct hqu hcl
                            by_cases h44 : U[n] = 44
                            · have b44 := byte_lit (s := U) (i := n) (h := hnn) h44 44 rfl
                              have CE : Hid (∀ w0, Calls Tryd.prog 64 #[.string ⟨#[bb]⟩, .string ⟨#[44, 59, 58]⟩] w0 fun e w' => e = .returned (.int .i64 ((0 : Nat) : Int)) ∧ Below w0.heap.size w0 w') := Lib.hid fun w0 => by
                                have := hCE w0
                                rw [three_yes (by rw [← hbb]; exact .inl h44)] at this
                                exact this
                              have HNX : Hid (StU V (U.extract n U.size).data.toList true (acc ++ [Z.data.toList]) h') := Lib.hid (StU.next hVv hvp (by rw [hrh, h44]))
                              clear hCE hVv HSU hUl hvp hrh hbb h44
                              go_wp2_with (first
                                | (go_at_call 64; (with_reducible refine (CU.out _).mono ?_); rintro e' w5 ⟨rfl, hb⟩; have HXC := Lib.hid (HX.out.call hb); have HPC := Lib.hid (HPB.out.call hb); clear hb d0 d1 d2 d3 f0 f1 a1 a2 a3 a4 a5 a6 b1 b2 b3 b4 b5; obtain ⟨d0, d1, d2, d3⟩ := HXC.out.facts; obtain ⟨⟨f0, f1⟩, ⟨a1, a2, a3, a4, a5, a6⟩, b1, b2, b3, b4, b5⟩ := HPC.out.facts)
                                | (go_at_call 38; refine (CC.out _).mono ?_; rintro e' w7 ⟨rfl, rfl⟩)
                                | (go_at_call 35; refine (CH.out _).mono ?_; rintro e' w8 ⟨rfl, rfl⟩)
                                | (go_at_call 64; (with_reducible refine (CE.out _).mono ?_); rintro e' w6 ⟨rfl, hb⟩; replace HXC := Lib.hid (HXC.out.call hb); replace HPC := Lib.hid (HPC.out.call hb); clear hb d0 d1 d2 d3 f0 f1 a1 a2 a3 a4 a5 a6 b1 b2 b3 b4 b5; obtain ⟨d0, d1, d2, d3⟩ := HXC.out.facts; obtain ⟨⟨f0, f1⟩, ⟨a1, a2, a3, a4, a5, a6⟩, b1, b2, b3, b4, b5⟩ := HPC.out.facts)
                                | (at_builtin; refine wpList_append_own _ rfl (.tmp 107) (.tmp 109) 39 rfl (X1 + 1) 9 i1 (.string ⟨#[]⟩) 1 16 Tryd.underlying39 hi1 hy0 hy1 hy2 rfl (by decide) _ acc.length (strV acc) rfl (World.ownsRow.alloc HXC.out.2.2.2 _) _ 1 1 [.string Z] rfl rfl (cells_at (by simp) _ _) (by simp [Value.oneCell']) (by unfold maxLen; omega) (by omega) (by have := HXC.out.2.1.2; simp at *; omega) ?_; intro v5 w5 hown hgrow _; have HM5 := Lib.hid (HXC.out.more hown hgrow); have hy := HXC.out.after hgrow; obtain ⟨y5, y6, y7⟩ := hy; clear hown hgrow; obtain ⟨oa5, cap5, rfl⟩ := HM5.out.form1))
                              go_roundw
                              case rel => exact ⟨U, n, true, acc ++ [Z.data.toList], _, h', rfl, rfl, rfl, hnn, by omega, by rw [List.length_append, List.length_singleton]; omega, by omega, by omega, HM5, HNX⟩
                              case measure => simp [intOf]; omega
                            · have b44 := byte_not (s := U) (i := n) (h := hnn) h44 44 rfl
                              by_cases hend : U[n] = 59 ∨ U[n] = 58
                              · have CE : Hid (∀ w0, Calls Tryd.prog 64 #[.string ⟨#[bb]⟩, .string ⟨#[44, 59, 58]⟩] w0 fun e w' => e = .returned (.int .i64 ((0 : Nat) : Int)) ∧ Below w0.heap.size w0 w') := Lib.hid fun w0 => by
                                  have := hCE w0
                                  rw [three_yes (by rw [← hbb]; exact .inr hend)] at this
                                  exact this
                                have HNX : Hid (StU V (U.extract n U.size).data.toList false (acc ++ [Z.data.toList]) h') := Lib.hid (StU.last hVv hvp (by rw [hrh]; exact hend.elim (fun h => .inl (by rw [h])) (fun h => .inr (by rw [h]))))
                                clear hCE hVv HSU hUl hvp hrh hbb h44 hend
                                go_wp2_with (first
                                  | (go_at_call 64; (with_reducible refine (CU.out _).mono ?_); rintro e' w5 ⟨rfl, hb⟩; have HXC := Lib.hid (HX.out.call hb); have HPC := Lib.hid (HPB.out.call hb); clear hb d0 d1 d2 d3 f0 f1 a1 a2 a3 a4 a5 a6 b1 b2 b3 b4 b5; obtain ⟨d0, d1, d2, d3⟩ := HXC.out.facts; obtain ⟨⟨f0, f1⟩, ⟨a1, a2, a3, a4, a5, a6⟩, b1, b2, b3, b4, b5⟩ := HPC.out.facts)
                                  | (go_at_call 38; refine (CC.out _).mono ?_; rintro e' w7 ⟨rfl, rfl⟩)
                                  | (go_at_call 35; refine (CH.out _).mono ?_; rintro e' w8 ⟨rfl, rfl⟩)
                                  | (go_at_call 64; (with_reducible refine (CE.out _).mono ?_); rintro e' w6 ⟨rfl, hb⟩; replace HXC := Lib.hid (HXC.out.call hb); replace HPC := Lib.hid (HPC.out.call hb); clear hb d0 d1 d2 d3 f0 f1 a1 a2 a3 a4 a5 a6 b1 b2 b3 b4 b5; obtain ⟨d0, d1, d2, d3⟩ := HXC.out.facts; obtain ⟨⟨f0, f1⟩, ⟨a1, a2, a3, a4, a5, a6⟩, b1, b2, b3, b4, b5⟩ := HPC.out.facts)
                                  | (at_builtin; refine wpList_append_own _ rfl (.tmp 107) (.tmp 109) 39 rfl (X1 + 1) 9 i1 (.string ⟨#[]⟩) 1 16 Tryd.underlying39 hi1 hy0 hy1 hy2 rfl (by decide) _ acc.length (strV acc) rfl (World.ownsRow.alloc HXC.out.2.2.2 _) _ 1 1 [.string Z] rfl rfl (cells_at (by simp) _ _) (by simp [Value.oneCell']) (by unfold maxLen; omega) (by omega) (by have := HXC.out.2.1.2; simp at *; omega) ?_; intro v5 w5 hown hgrow _; have HM5 := Lib.hid (HXC.out.more hown hgrow); have hy := HXC.out.after hgrow; obtain ⟨y5, y6, y7⟩ := hy; clear hown hgrow; obtain ⟨oa5, cap5, rfl⟩ := HM5.out.form1))
                                go_roundw
                                case rel => exact ⟨U, n, false, acc ++ [Z.data.toList], _, h', rfl, rfl, rfl, hnn, by omega, by rw [List.length_append, List.length_singleton]; omega, by omega, by omega, HM5, HNX⟩
                                case measure => simp [intOf]; omega
                              · have CE : Hid (∀ w0, Calls Tryd.prog 64 #[.string ⟨#[bb]⟩, .string ⟨#[44, 59, 58]⟩] w0 fun e w' => e = .returned (.int .i64 (-1)) ∧ Below w0.heap.size w0 w') := Lib.hid fun w0 => by
                                  have := hCE w0
                                  rw [three_not (by rw [← hbb]; exact h44) (by rw [← hbb]; exact fun h => hend (.inl h)) (by rw [← hbb]; exact fun h => hend (.inr h))] at this
                                  exact this
                                have HE := Lib.hid (HBAD.out (valsP_stop hVv hvp (by rw [hrh]; simpa using h44) (by rw [hrh]; simpa using fun h => hend (.inl h)) (by rw [hrh]; simpa using fun h => hend (.inr h))))
                                clear hCE hVv HSU hUl hvp hrh hbb h44 hend
                                go_wp2_with (first
                                  | (go_at_call 64; (with_reducible refine (CU.out _).mono ?_); rintro e' w5 ⟨rfl, hb⟩; have HXC := Lib.hid (HX.out.call hb); have HPC := Lib.hid (HPB.out.call hb); clear hb d0 d1 d2 d3 f0 f1 a1 a2 a3 a4 a5 a6 b1 b2 b3 b4 b5; obtain ⟨d0, d1, d2, d3⟩ := HXC.out.facts; obtain ⟨⟨f0, f1⟩, ⟨a1, a2, a3, a4, a5, a6⟩, b1, b2, b3, b4, b5⟩ := HPC.out.facts)
                                  | (go_at_call 38; refine (CC.out _).mono ?_; rintro e' w7 ⟨rfl, rfl⟩)
                                  | (go_at_call 35; refine (CH.out _).mono ?_; rintro e' w8 ⟨rfl, rfl⟩)
                                  | (go_at_call 64; (with_reducible refine (CE.out _).mono ?_); rintro e' w6 ⟨rfl, hb⟩; replace HXC := Lib.hid (HXC.out.call hb); replace HPC := Lib.hid (HPC.out.call hb); clear hb d0 d1 d2 d3 f0 f1 a1 a2 a3 a4 a5 a6 b1 b2 b3 b4 b5; obtain ⟨d0, d1, d2, d3⟩ := HXC.out.facts; obtain ⟨⟨f0, f1⟩, ⟨a1, a2, a3, a4, a5, a6⟩, b1, b2, b3, b4, b5⟩ := HPC.out.facts))
                                have HQ := Lib.hid (HPC.out.fin rfl)
                                have hq1 := HQ.out.1
                                have hq2 := HQ.out.2.1
                                have hq3 := HQ.out.2.2.1
                                exact bodyPost_ret (v := .tuple #[.agg #[.string G, .slice oa l.length cap, .string ⟨#[]⟩], .int .i64 5]) (by simp [results, Tryd.results42, go_sem, hq1, hq2, hq3]) rfl (RLnPost.bad HE.out (by decide) HQ.out.2.2.2.1)
                · have HO := Lib.hid (HOK.out (by rw [hVv]))
                  rw [hVv] at HO
                  clear hVv hne HSU HBAD HOK
                  have j0' : True := trivial
                  go_wp2_with (at_builtin; refine wpList_append_lies _ rfl (.tmp 113) (.tmp 115) 62 rfl (X0 + 1) 66 i0 (.agg #[.string ⟨#[]⟩, .slice none 0 0]) 2 40 Tryd.underlying62 hi0 hz0 hz1 hz2 rfl (by decide) _ l.length (l.flatMap cPrm) rfl (HPB.out.2.2.2.2.1.alloc _) _ 1 1 [.string K, .slice ua acc.length uc] rfl rfl (cells_at (by simp) _ _) (by simp [Value.oneCell']) (by decide) (by unfold maxLen; omega) (by have := HAC.out; omega) (by have := HPB.out.2.1.2; simp; omega) _ rfl ?_; intro g5 c5 w5 hown hgrow hat _; have hm5 := HP4.out.more (a := (⟨K, acc.map bs⟩, .slice ua acc.length uc)) (HX.out.below.alloc (by have := HX.out.below.size; omega) _) hown hgrow hat (HP4.out.apart HX.out.q ((Below.refl _ _).alloc (Nat.le_refl _) _)); obtain ⟨⟨y5, y6, y7⟩, hl5⟩ := hm5; have HM5 := Lib.hid hl5; clear hl5 hown hgrow hat)
                  go_roundw
                  case rel => exact ⟨R, k, l ++ [(⟨K, acc.map bs⟩, .slice ua acc.length uc)], _, g', rfl, rfl, hk, by omega, by rw [List.length_append, List.length_singleton]; have := HAC.out; have := HM.out; omega, by have := HG.out; omega, HM5, Lib.hid (by rw [List.map_append]; exact HO.out)⟩
                  case measure => have := HM.out; simp [intOf]; omega
        · have c1 := byte_not (s := S) (i := j) (h := hj) h59 59 rfl
          have hV1 : V0 = (0, l.map Prod.fst, (S.extract j S.size).data.toList) := by rw [HST.out]; exact prmsP_end (by rw [hH]; simpa using h59)
          have hpv := HPV.out.2
          rw [hV1] at hpv
          replace hpv := And.intro (hpv.1 rfl) (hpv.2 rfl)
          simp only [← hTl] at hpv
          have CC : Hid (∀ w0, Calls Tryd.prog 38 #[.string T] w0 fun e w' => e = .returned (.bool (T.data.toList.any ctl)) ∧ w0 = w') := Lib.hid fun w0 => controls_any T w0 (by omega)
          clear hV1 HST HPV h59 hTl hH
          have HPt := Lib.hid (HP.out.putv T)
          have x1 : ¬ X0 = w.heap.size := by have := HP.out.2.1.1; omega
          have x2 : ¬ w.heap.size = X0 := by omega
          cases hc : T.data.toList.any ctl with
          | true =>
            rw [hc] at CC
            have HE := Lib.hid (hpv.1 (by unfold cleanB; rw [hc]; rfl))
            clear hpv hc
            go_wp2_with (go_at_call 38; refine (CC.out _).mono ?_; rintro e w4 ⟨rfl, rfl⟩)
            have hq1 := (HPt.out.fin rfl).1
            have hq2 := (HPt.out.fin rfl).2.1
            have hq3 := (HPt.out.fin rfl).2.2.1
            exact bodyPost_ret (v := .tuple #[.agg #[.string G, .slice oa l.length cap, .string T], .int .i64 5]) (by simp [results, Tryd.results42, go_sem, hq1, hq2, hq3]) rfl (RLnPost.bad HE.out (by decide) (HPt.out.fin rfl).2.2.2.1)
          | false =>
            rw [hc] at CC
            have HO := Lib.hid (hpv.2 (by unfold cleanB; rw [hc]; rfl))
            clear hpv hc
            go_wp2_with (go_at_call 38; refine (CC.out _).mono ?_; rintro e w4 ⟨rfl, rfl⟩)
            have hq1 := (HPt.out.fin rfl).1
            have hq2 := (HPt.out.fin rfl).2.1
            have hq3 := (HPt.out.fin rfl).2.2.1
            exact bodyPost_ret (v := .tuple #[.agg #[.string G, .slice oa l.length cap, .string T], .int .i64 0]) (by simp [results, Tryd.results42, go_sem, hq1, hq2, hq3]) rfl ⟨fun _ => ⟨_, by rw [HO.out, bs_of], by rw [HO.out]; exact (HPt.out.fin rfl).2.2.2.2⟩, fun h => absurd (by rw [HO.out]) h, (HPt.out.fin rfl).2.2.2.1⟩
        end Go.Proofs.YtidgahnamdhflaaDoor
