/- text.param: the walk. -/
import Derived.Test.YtidgahnamdhflaaDoorPsxD
import Derived.Deep.CutRange
namespace Go.Proofs.YtidgahnamdhflaaDoor
open Go.RowKit Go.Shelf Fld Prt Psx
theorem valP_qn {s : List UInt8} (h : s.head? = some 34) (h2 : fstOf s.tail [34] = none) : (valP s).err = 5 := by unfold valP; rw [if_pos h, h2]
theorem valP_qb {s : List UInt8} {e : Nat} (h : s.head? = some 34) (h2 : fstOf s.tail [34] = some e) (h3 : cleanQ (s.tail.take e) = false ∨ s.tail.drop (e + 1) = []) : (valP s).err = 5 := by unfold valP; rw [if_pos h, h2]; simp only; rw [if_pos h3]
theorem valP_qo {s : List UInt8} {e : Nat} (h : s.head? = some 34) (h2 : fstOf s.tail [34] = some e) (h3 : ¬ (cleanQ (s.tail.take e) = false ∨ s.tail.drop (e + 1) = [])) : valP s = ⟨0, s.tail.take e, s.tail.drop (e + 1)⟩ := by unfold valP; rw [if_pos h, h2]; simp only; rw [if_neg h3]
theorem valP_un {s : List UInt8} (h : s.head? ≠ some 34) (h2 : fstOf s [44, 59, 58] = none) : (valP s).err = 5 := by unfold valP; rw [if_neg h, h2]
theorem valP_ub {s : List UInt8} {e : Nat} (h : s.head? ≠ some 34) (h2 : fstOf s [44, 59, 58] = some e) (h3 : cleanQ (s.take e) = false) : (valP s).err = 5 := by unfold valP; rw [if_neg h, h2]; simp only; rw [if_pos h3]
theorem valP_uo {s : List UInt8} {e : Nat} (h : s.head? ≠ some 34) (h2 : fstOf s [44, 59, 58] = some e) (h3 : cleanQ (s.take e) = true) : valP s = ⟨0, s.take e, s.drop e⟩ := by unfold valP; rw [if_neg h, h2]; simp only; rw [if_neg (by rw [h3]; decide)]
theorem valsP_bad {g : Nat} {acc : List (List UInt8)} {s : List UInt8} (h : (valP s.tail).err = 5) : (valsP (g + 1) acc s).1 = 5 := by
  unfold valsP; simp only; rw [if_pos (by rw [h]; decide), h]
theorem valsP_go {g : Nat} {acc : List (List UInt8)} {s v r : List UInt8} (h : valP s.tail = ⟨0, v, r⟩) (h2 : r.head? = some 44) : valsP (g + 1) acc s = valsP g (acc ++ [v]) r := by
  conv => lhs; unfold valsP
  simp only [h]; rw [if_neg (by simp), if_pos h2]
/-- Where the values end. -/
def endV (acc : List (List UInt8)) (r : List UInt8) : Int × List (List UInt8) × List UInt8 := if r.head? = some 59 ∨ r.head? = some 58 then (0, acc, r) else (5, [], [])
theorem valsP_end {g : Nat} {acc : List (List UInt8)} {s v r : List UInt8} (h : valP s.tail = ⟨0, v, r⟩) (h2 : r.head? ≠ some 44) : valsP (g + 1) acc s = endV (acc ++ [v]) r := by
  unfold valsP endV; simp only [h]; rw [if_neg (by simp), if_neg h2]
/-- What is left to read. -/
def StV (V : Int × List (List UInt8) × List UInt8) (r : List UInt8) (b : Bool) (acc : List (List UInt8)) (g : Nat) : Prop :=
  ((b = true ∨ (b = false ∧ r.head? = some 44)) ∧ V = valsP (g + 1) acc r) ∨ (b = false ∧ r.head? ≠ some 44 ∧ V = endV acc r)
theorem StV.next {V : Int × List (List UInt8) × List UInt8} {s v r : List UInt8} {acc : List (List UInt8)} {g : Nat} (h : V = valsP (g + 2) acc s) (hv : valP s.tail = ⟨0, v, r⟩) : StV V r false (acc ++ [v]) g := by
  by_cases h2 : r.head? = some 44
  · exact .inl ⟨.inr ⟨rfl, h2⟩, by rw [h, valsP_go hv h2]⟩
  · exact .inr ⟨rfl, h2, by rw [h, valsP_end hv h2]⟩
theorem PmS.after {w : World} {X0 : Nat} {G : ByteArray} {v : Value} {acc : List (List UInt8)} {x x3 : World} {o : Obj} (h : PmS w X0 G v acc x) (hg : (x.alloc o).grownBy x3 v.ownBlock) : X0 < x3.heap.size ∧ x3.cell? ⟨X0, 1, none⟩ = some v ∧ x3.frozen? ⟨X0, 1, none⟩ = false := by
  obtain ⟨h1, ⟨h2, h3⟩, -, ⟨b1, b2, b3⟩, h4⟩ := h
  have kb : x3.heap[X0]? = x.heap[X0]? := by
    rw [hg.block X0 (by simp; omega) (fun e => by have := (World.ownsRow.lt h4 X0 e.symm).1; omega)]
    show (x.heap.push o)[X0]? = _
    rw [Array.getElem?_push_lt (by omega), Array.getElem?_eq_getElem]
  exact ⟨Nat.lt_of_lt_of_le (by simp; omega) hg.size, (World.cell?_of_block (w := x) (a := ⟨X0, 1, none⟩) kb).trans b2, by unfold World.frozen? at b3 ⊢; rw [kb]; exact b3⟩
theorem PmS.drewN {w : World} {X0 : Nat} {G : ByteArray} {v : Value} {acc : List (List UInt8)} {x : World} (h : PmS w X0 G v acc x) (n : Nat) : PmS w X0 G v acc (x.drewN n) := h.call (below_drewN (Below.refl _ _) n)
theorem endV_bad {acc : List (List UInt8)} {r : List UInt8} (h1 : r.head? ≠ some 59) (h2 : r.head? ≠ some 58) : (endV acc r).1 = 5 := by
  unfold endV; rw [if_neg (fun h => h.elim h1 h2)]
theorem PmS.form1 {w : World} {X0 : Nat} {G : ByteArray} {v : Value} {acc : List (List UInt8)} {V : List UInt8} {x : World} (h : PmS w X0 G v (acc ++ [V]) x) : ∃ oa cap, v = .slice oa (acc.length + 1) cap := by
  have := h.form
  rw [List.length_append, List.length_singleton] at this
  exact this
theorem pm_start {w w1 : World} (G : ByteArray) (hb : Below (w.alloc (.cells #[.string ⟨#[]⟩, .slice none 0 0] 66)).heap.size (w.alloc (.cells #[.string ⟨#[]⟩, .slice none 0 0] 66)) w1) : PmS w w1.heap.size G (.slice none 0 0) [] (w1.alloc (.cells #[.string G, .slice none 0 0] 66)) := by
  have h1 : Below w.heap.size w w1 := ((Below.refl _ _).alloc (Nat.le_refl _) _).trans (hb.mono (by simp))
  have h2 : w.heap.size < w1.heap.size := Nat.lt_of_lt_of_le (by simp) hb.size
  have h3 : Below w1.heap.size w1 (w1.alloc (.cells #[.string G, .slice none 0 0] 66)) := (Below.refl _ _).alloc (Nat.le_refl _) _
  refine ⟨thenB h1 h3, ⟨h2, by simp⟩, ⟨?_, ?_, ?_, ?_⟩, ⟨by simp, by simp, by simp⟩, World.ownsRow_nil _ _ _ _⟩
  · exact (h3.cell (p := ⟨w.heap.size, 0, none⟩) h2).trans ((hb.cell (p := ⟨w.heap.size, 0, none⟩) (by simp)).trans (by simp))
  · exact (h3.frozen (p := ⟨w.heap.size, 0, none⟩) h2).trans ((hb.frozen (p := ⟨w.heap.size, 0, none⟩) (by simp)).trans (by simp))
  · exact (h3.cell (p := ⟨w.heap.size, 1, none⟩) h2).trans ((hb.cell (p := ⟨w.heap.size, 1, none⟩) (by simp)).trans (by simp))
  · exact (h3.frozen (p := ⟨w.heap.size, 1, none⟩) h2).trans ((hb.frozen (p := ⟨w.heap.size, 1, none⟩) (by simp)).trans (by simp))
theorem head_get {s : ByteArray} (h : 0 < s.size) : s.data.toList.head? = some s[0] := by rw [List.head?_eq_getElem?]; exact getE_list s 0 h
theorem head_eq {s : ByteArray} (h : 0 < s.size) (c : UInt8) : s.data.toList.head? = some c ↔ s[0] = c := by rw [head_get h]; simp
theorem tail_list (s : ByteArray) : (s.extract 1 s.size).data.toList = s.data.toList.tail := by rw [ext_tail, List.drop_one]
set_option maxRecDepth 100000 in
set_option maxHeartbeats 16000000 in
theorem param_any (s : ByteArray) (w : World) (hs : s.size ≤ 1048576) :
    Calls Tryd.prog 78 #[.string s] w (ParPost s.data.toList w) := by
  have hI := fun w0 => ib_fst s 61 61 rfl w0
  cases h61 : fstOf s.data.toList [61] with
  | none =>
    rw [h61] at hI
    have CI : Hid (∀ w0, Calls Tryd.prog 46 #[.string s, .int .u8 61] w0 fun e w' => e = .returned (.int .i64 (-1)) ∧ w0 = w') := Lib.hid hI
    have HE := Lib.hid (prmP_none h61)
    clear hI h61
    go_enter Tryd.func78, Tryd.ntmps78
    go_wp2_with (go_at_call 46; refine (CI.out _).mono ?_; rintro e w1 ⟨rfl, rfl⟩)
    exact bodyPost_ret (v := .tuple #[.agg #[.string ⟨#[]⟩, .slice none 0 0], .string ⟨#[]⟩, .iface 26 (.int .i64 5)]) (by simp [results, Tryd.results78, go_sem]) rfl (ParPost.bad HE.out (by decide) ((Below.refl _ _).alloc (Nat.le_refl _) _))
  | some i =>
    rw [h61] at hI
    have hil : i < s.size := by have := fstOf_lt h61; rwa [len_eq] at this
    have CI : Hid (∀ w0, Calls Tryd.prog 46 #[.string s, .int .u8 61] w0 fun e w' => e = .returned (.int .i64 (i : Int)) ∧ w0 = w') := Lib.hid hI
    obtain ⟨G, hG⟩ : ∃ G, bs (greatL (s.data.toList.take i)) = G := ⟨_, rfl⟩
    have CG : Hid (∀ w0, Calls Tryd.prog 63 #[.string (s.extract 0 i)] w0 fun e w' => e = .returned (.string G) ∧ Below w0.heap.size w0 w') := Lib.hid fun w0 => by
      have h := great_any (s.extract 0 i) w0 (by rw [ByteArray.size_extract]; omega)
      rw [ext_to, hG] at h
      exact h
    have hGl : G.data.toList = greatL (s.data.toList.take i) := by rw [← hG]; rfl
    have hGs : G.size ≤ 1048576 := by rw [← len_eq, hGl, greatL_len, List.length_take, len_eq]; omega
    have CN : Hid (∀ w0, Calls Tryd.prog 57 #[.string G] w0 fun e w' => e = .returned (.bool (nameB G.data.toList)) ∧ Below w0.heap.size w0 w') := Lib.hid fun w0 => name_any G w0 (by omega)
    have k0 : (0 : Int) ≤ (i : Int) := by omega
    have k1 : (i : Int) ≤ (s.size : Int) := by omega
    have k2 : ¬ (i : Int) < 0 := by omega
    clear hI hG
    cases hN : nameB G.data.toList with
    | false =>
      rw [hN] at CN
      have HE := Lib.hid (prmP_name h61 (by rw [← hGl]; exact hN))
      clear hN h61 hGl
      go_enter Tryd.func78, Tryd.ntmps78
      go_wp2_with (first
        | (go_at_call 46; refine (CI.out _).mono ?_; rintro e w1 ⟨rfl, rfl⟩)
        | (go_at_call 63; refine (CG.out _).mono ?_; rintro e w1 ⟨rfl, hb⟩; have HP1 := Lib.hid (pm_start G hb); clear hb)
        | (go_at_call 57; refine (CN.out _).mono ?_; rintro e w2 ⟨rfl, hb⟩; have HP2 := Lib.hid (HP1.out.call hb); clear hb; obtain ⟨⟨f0, f1⟩, ⟨a1, a2, a3, a4⟩, b1, b2, b3⟩ := HP2.out.facts))
      have hq := HP2.out.fin
      exact bodyPost_ret (v := .tuple #[.agg #[.string G, .slice none 0 0], .string ⟨#[]⟩, .iface 26 (.int .i64 8)]) (by simp [results, Tryd.results78, go_sem, hq.1, hq.2.1]) rfl (ParPost.bad HE.out (by decide) hq.2.2.1)
    | true =>
      rw [hN] at CN
      obtain ⟨V, hV⟩ : ∃ V, valsP (s.data.toList.length + 1) [] (s.data.toList.drop i) = V := ⟨_, rfl⟩
      have hpv := prmP_vals h61 (by rw [← hGl]; exact hN)
      rw [hV] at hpv
      have HBAD : Hid (V.1 = 5 → (prmP s.data.toList).1 = 5) := Lib.hid fun h => (hpv.1 (by rw [h]; decide)).trans h
      have HOK : Hid (V.1 = 0 → prmP s.data.toList = (0, ⟨G, V.2.1.map bs⟩, V.2.2)) := Lib.hid fun h => by rw [hpv.2 h, ← hGl, bs_of]
      have HV0 : Hid (StV V (s.extract i s.size).data.toList true [] s.size) := Lib.hid (.inl ⟨.inl rfl, by rw [ext_tail, ← hV, len_eq]⟩)
      clear hN h61 hGl hpv hV
      go_enter Tryd.func78, Tryd.ntmps78
      go_wp2_with (first
        | (go_at_call 46; refine (CI.out _).mono ?_; rintro e w1 ⟨rfl, rfl⟩)
        | (go_at_call 63; refine (CG.out _).mono ?_; rintro e w1 ⟨rfl, hb⟩; have HP1 := Lib.hid (pm_start G hb); clear hb)
        | (go_at_call 57; refine (CN.out _).mono ?_; rintro e w2 ⟨rfl, hb⟩; have HP2 := Lib.hid (HP1.out.call hb); clear hb))
      obtain ⟨X0, hX0⟩ : ∃ X, w1.heap.size = X := ⟨_, rfl⟩
      rw [hX0] at HP2 ⊢
      clear HP1 hX0
      obtain ⟨i0, hi0, hz0, hz1, hz2⟩ := info_parts str_info
      go_loopw [0, 7] (fun a f wr => ∃ (R : ByteArray) (b : Bool) (acc : List (List UInt8)) (v : Value) (g : Nat), a = .string R ∧ f = .bool b ∧ 0 < R.size ∧ acc.length + R.size ≤ s.size ∧ R.size ≤ g ∧ Hid (PmS w X0 G v acc wr) ∧ Hid (StV V R.data.toList b acc g)) (fun a _ _ => match a with | .string r => r.size | _ => 0)
      case atStart => exact ⟨_, true, [], .slice none 0 0, s.size, rfl, rfl, by rw [ByteArray.size_extract]; omega, by rw [ByteArray.size_extract]; simp, by rw [ByteArray.size_extract]; omega, HP2, HV0⟩
      case round =>
        clear HP2 HV0
        obtain ⟨R, b, acc, v, g, rfl, rfl, hR0, hacc, hRg, HP, HST⟩ := hrel
        obtain ⟨wA, rfl⟩ : ∃ wo : World, wo = wr := ⟨_, rfl⟩
        have z0 : (0 : Int) < (R.size : Int) := by omega
        have z1 : (1 : Int) ≤ (R.size : Int) := by omega
        rcases HST.out with ⟨hb, hVv⟩ | ⟨rfl, hne, hVv⟩
        · rcases hb with rfl | ⟨rfl, hh⟩
          · have hcond : True := trivial
            obtain ⟨T, hT⟩ : ∃ T, R.extract 1 R.size = T := ⟨_, rfl⟩
            have hTl : T.data.toList = R.data.toList.tail := by rw [← hT, tail_list]
            have hTs : T.size + 1 ≤ R.size ∧ R.size ≤ T.size + 1 := by (have h : T.size = R.size - 1 := by rw [← len_eq, hTl, List.length_tail, len_eq]); omega
            have CH : Hid (∀ w0, Calls Tryd.prog 95 #[.string T, .string ⟨#[34]⟩] w0 fun e w' => e = .returned (.bool (decide (T.data.toList.head? = some 34))) ∧ w0 = w') := Lib.hid fun w0 => hp_any T w0
            obtain ⟨oa, cap, rfl⟩ := HP.out.form
            obtain ⟨⟨f0, f1⟩, ⟨a1, a2, a3, a4⟩, b1, b2, b3⟩ := HP.out.facts
            obtain ⟨g', rfl⟩ : ∃ g', g = g' + 1 := ⟨g - 1, by omega⟩
            by_cases hq34 : T.data.toList.head? = some 34
            · have hT1 : 1 ≤ T.size := by
                rw [← len_eq]
                cases hl : T.data.toList with
                | nil => rw [hl] at hq34; cases hq34
                | cons a l => simp
              rw [decide_eq_true hq34] at CH
              obtain ⟨U, hU⟩ : ∃ U, T.extract 1 T.size = U := ⟨_, rfl⟩
              have hUl : U.data.toList = T.data.toList.tail := by rw [← hU, tail_list]
              have hUs : U.size + 1 ≤ T.size ∧ T.size ≤ U.size + 1 := by (have h : U.size = T.size - 1 := by rw [← len_eq, hUl, List.length_tail, len_eq]); omega
              have hIU := fun w0 => ib_fst U 34 34 rfl w0
              have y1 : (1 : Int) ≤ (T.size : Int) := by omega
              cases hfo : fstOf U.data.toList [34] with
              | none =>
                rw [hfo] at hIU
                have CU : Hid (∀ w0, Calls Tryd.prog 46 #[.string U, .int .u8 34] w0 fun e w' => e = .returned (.int .i64 (-1)) ∧ w0 = w') := Lib.hid hIU
                have HE := Lib.hid (HBAD.out (by rw [hVv]; exact valsP_bad (by rw [← hTl]; exact valP_qn hq34 (by rw [← hUl]; exact hfo))))
                clear hIU hfo hVv hq34 hTl hUl HST
                go_wp2_with (first
                  | (go_at_call 95; refine (CH.out _).mono ?_; rintro e w3 ⟨rfl, rfl⟩)
                  | (go_at_call 46; refine (CU.out _).mono ?_; rintro e w3 ⟨rfl, rfl⟩))
                have hq := HP.out.fin
                exact bodyPost_ret (v := .tuple #[.agg #[.string G, .slice oa acc.length cap], .string ⟨#[]⟩, .iface 26 (.int .i64 5)]) (by simp [results, Tryd.results78, go_sem, hq.1, hq.2.1]) rfl (ParPost.bad HE.out (by decide) hq.2.2.1)
              | some e =>
                rw [hfo] at hIU
                have heu : e < U.size := by have := fstOf_lt hfo; rwa [len_eq] at this
                have CU : Hid (∀ w0, Calls Tryd.prog 46 #[.string U, .int .u8 34] w0 fun e' w' => e' = .returned (.int .i64 (e : Int)) ∧ w0 = w') := Lib.hid hIU
                obtain ⟨Vv, hVs⟩ : ∃ Vv, T.extract 1 (e + 1) = Vv := ⟨_, rfl⟩
                obtain ⟨Rr, hRr⟩ : ∃ Rr, T.extract (e + 2) T.size = Rr := ⟨_, rfl⟩
                have hVl : Vv.data.toList = T.data.toList.tail.take e := by rw [← hVs, ext_list, List.drop_one]; simp
                have hRl : Rr.data.toList = T.data.toList.tail.drop (e + 1) := by rw [← hRr, ext_tail, ← List.drop_one, List.drop_drop]; congr 1; omega
                have hRs : Rr.size ≤ T.size - (e + 2) ∧ T.size - (e + 2) ≤ Rr.size := by rw [← hRr, ByteArray.size_extract]; omega
                have hVz : Vv.size ≤ 1048576 := by rw [← hVs, ByteArray.size_extract]; omega
                have e0 : ¬ (e : Int) < 0 := by omega
                have e1 : (0 : Int) ≤ (e : Int) + 1 := by omega
                have e2 : ((e : Int) + 1).toNat = e + 1 := by omega
                have e3 : (e : Int) + 1 ≤ (T.size : Int) := by omega
                have e4 : (1 : Int) ≤ (e : Int) + 1 := by omega
                have e5 : (0 : Int) ≤ (e : Int) + 2 := by omega
                have e6 : ((e : Int) + 2).toNat = e + 2 := by omega
                have e7 : (e : Int) + 2 ≤ (T.size : Int) := by omega
                have w1 : IntKind.i64.wrap ((e : Int) + 1) = (e : Int) + 1 := IntWalk.i64_in _ (by omega)
                have w2 : IntKind.i64.wrap ((e : Int) + 2) = (e : Int) + 2 := IntWalk.i64_in _ (by omega)
                have CC : Hid (∀ w0, Calls Tryd.prog 74 #[.string Vv, .string ⟨#[34]⟩] w0 fun e w' => e = .returned (.bool (cleanQ Vv.data.toList)) ∧ w0 = w') := Lib.hid fun w0 => by
                  have := clean_any Vv ⟨#[34]⟩ w0 (by omega)
                  rw [show (⟨#[34]⟩ : ByteArray).data.toList = [34] from rfl, all_okQ] at this
                  exact this
                rw [hUl] at hfo
                clear hIU HST
                cases hc : cleanQ Vv.data.toList with
                | false =>
                  rw [hc] at CC
                  have HE := Lib.hid (HBAD.out (by rw [hVv]; exact valsP_bad (by rw [← hTl]; exact valP_qb hq34 hfo (.inl (by rw [← hVl]; exact hc)))))
                  clear hfo hVv hq34 hTl hVl hRl hc
                  go_wp2_with (first
                    | (go_at_call 95; refine (CH.out _).mono ?_; rintro e w3 ⟨rfl, rfl⟩)
                    | (go_at_call 46; refine (CU.out _).mono ?_; rintro e w3 ⟨rfl, rfl⟩))
                  go_quiet (fail)
                  have HPd := Lib.hid (fun n => HP.out.drewN n)
                  go_wp2_with (go_at_call 74; refine (CC.out _).mono ?_; rintro e w4 ⟨rfl, rfl⟩)
                  have hq1 := fun n => (HPd.out n).fin.1
                  have hq2 := fun n => (HPd.out n).fin.2.1
                  exact bodyPost_ret (v := .tuple #[.agg #[.string G, .slice oa acc.length cap], .string ⟨#[]⟩, .iface 26 (.int .i64 5)]) (by simp [results, Tryd.results78, go_sem, hq1, hq2]) rfl (ParPost.bad HE.out (by decide) (HPd.out _).fin.2.2.1)
                | true =>
                  rw [hc] at CC
                  by_cases hr0 : Rr.data.toList = []
                  · have HE := Lib.hid (HBAD.out (by rw [hVv]; exact valsP_bad (by rw [← hTl]; exact valP_qb hq34 hfo (.inr (by rw [← hRl]; exact hr0)))))
                    have hrb : Rr.toList.isEmpty = true := by rw [Lib.toList_data, hr0]; rfl
                    clear hfo hVv hq34 hTl hVl hRl hc hr0
                    go_wp2_with (first
                      | (go_at_call 95; refine (CH.out _).mono ?_; rintro e w3 ⟨rfl, rfl⟩)
                      | (go_at_call 46; refine (CU.out _).mono ?_; rintro e w3 ⟨rfl, rfl⟩))
                    go_quiet (fail)
                    have HPd := Lib.hid (fun n => HP.out.drewN n)
                    go_wp2_with (go_at_call 74; refine (CC.out _).mono ?_; rintro e w4 ⟨rfl, rfl⟩)
                    have hq1 := fun n => (HPd.out n).fin.1
                    have hq2 := fun n => (HPd.out n).fin.2.1
                    exact bodyPost_ret (v := .tuple #[.agg #[.string G, .slice oa acc.length cap], .string ⟨#[]⟩, .iface 26 (.int .i64 5)]) (by simp [results, Tryd.results78, go_sem, hq1, hq2]) rfl (ParPost.bad HE.out (by decide) (HPd.out _).fin.2.2.1)
                  · have hrb := not_empty hr0
                    have hRp : 0 < Rr.size := by rw [← len_eq]; exact List.length_pos_iff.2 hr0
                    have HNX : Hid (StV V Rr.data.toList false (acc ++ [Vv.data.toList]) g') := Lib.hid (StV.next hVv (by rw [← hTl, hVl, hRl]; exact valP_qo hq34 hfo (by rw [← hVl, ← hRl]; exact fun h => h.elim (fun h => absurd (hc.symm.trans h) (by decide)) (fun h => hr0 h))))
                    clear hfo hVv hq34 hTl hVl hRl hc hr0
                    go_wp2_with (first
                      | (go_at_call 95; refine (CH.out _).mono ?_; rintro e w3 ⟨rfl, rfl⟩)
                      | (go_at_call 46; refine (CU.out _).mono ?_; rintro e w3 ⟨rfl, rfl⟩))
                    go_quiet (fail)
                    have HPd := Lib.hid (fun n => HP.out.drewN n)
                    go_wp2_with (first
                      | (go_at_call 74; refine (CC.out _).mono ?_; rintro e w4 ⟨rfl, rfl⟩)
                      | (at_builtin; refine wpList_append_own _ rfl (.tmp 80) (.tmp 82) 39 rfl (X0 + 1) 9 i0 (.string ⟨#[]⟩) 1 16 Tryd.underlying39 hi0 hz0 hz1 hz2 rfl (by decide) _ acc.length (strV acc) rfl (World.ownsRow.alloc (HPd.out _).2.2.2.2 _) _ 1 1 [.string Vv] rfl rfl (cells_at (by simp) _ _) (by simp [Value.oneCell']) (by unfold maxLen; omega) (by omega) (by have := (HPd.out 0).2.1.2; simp at *; omega) ?_; intro v5 w5 hown hgrow _; have HM5 := Lib.hid ((HPd.out _).more hown hgrow); have hy := (HPd.out _).after hgrow; obtain ⟨y5, y6, y7⟩ := hy; clear hown hgrow; obtain ⟨oa5, cap5, rfl⟩ := HM5.out.form1))
                    go_roundw
                    case rel => exact ⟨_, false, acc ++ [Vv.data.toList], _, g', rfl, rfl, hRp, by rw [List.length_append, List.length_singleton]; omega, by omega, HM5, HNX⟩
                    case measure => simp only; omega
            · rw [decide_eq_false hq34] at CH
              have hIU := fun w0 => ia_fst T ⟨#[44, 59, 58]⟩ w0 (by decide) (by decide) (by omega) three_ascii
              cases hfo : fstOf T.data.toList [44, 59, 58] with
              | none =>
                rw [show (⟨#[44, 59, 58]⟩ : ByteArray).data.toList = [44, 59, 58] from rfl, hfo] at hIU
                have CU : Hid (∀ w0, Calls Tryd.prog 77 #[.string T, .string ⟨#[44, 59, 58]⟩] w0 fun e w' => e = .returned (.int .i64 (-1)) ∧ Below w0.heap.size w0 w') := Lib.hid hIU
                have HE := Lib.hid (HBAD.out (by rw [hVv]; exact valsP_bad (by rw [← hTl]; exact valP_un hq34 hfo)))
                clear hIU hfo hVv hq34 hTl HST
                go_wp2_with (first
                  | (go_at_call 95; refine (CH.out _).mono ?_; rintro e w3 ⟨rfl, rfl⟩)
                  | (go_at_call 77; refine (CU.out _).mono ?_; rintro e w3 ⟨rfl, hb⟩; have HP3 := Lib.hid (HP.out.call hb); clear hb; clear f0 f1 a1 a2 a3 a4 b1 b2 b3; obtain ⟨⟨f0, f1⟩, ⟨a1, a2, a3, a4⟩, b1, b2, b3⟩ := HP3.out.facts))
                have hq := HP3.out.fin
                exact bodyPost_ret (v := .tuple #[.agg #[.string G, .slice oa acc.length cap], .string ⟨#[]⟩, .iface 26 (.int .i64 5)]) (by simp [results, Tryd.results78, go_sem, hq.1, hq.2.1]) rfl (ParPost.bad HE.out (by decide) hq.2.2.1)
              | some e =>
                rw [show (⟨#[44, 59, 58]⟩ : ByteArray).data.toList = [44, 59, 58] from rfl, hfo] at hIU
                have heu : e < T.size := by have := fstOf_lt hfo; rwa [len_eq] at this
                have CU : Hid (∀ w0, Calls Tryd.prog 77 #[.string T, .string ⟨#[44, 59, 58]⟩] w0 fun e' w' => e' = .returned (.int .i64 (e : Int)) ∧ Below w0.heap.size w0 w') := Lib.hid hIU
                obtain ⟨Vv, hVs⟩ : ∃ Vv, T.extract 0 e = Vv := ⟨_, rfl⟩
                obtain ⟨Rr, hRr⟩ : ∃ Rr, T.extract e T.size = Rr := ⟨_, rfl⟩
                have hVl : Vv.data.toList = T.data.toList.take e := by rw [← hVs, ext_to]
                have hRl : Rr.data.toList = T.data.toList.drop e := by rw [← hRr, ext_tail]
                have hRs : Rr.size ≤ T.size - e ∧ T.size - e ≤ Rr.size := by rw [← hRr, ByteArray.size_extract]; omega
                have hVz : Vv.size ≤ 1048576 := by rw [← hVs, ByteArray.size_extract]; omega
                have e0 : ¬ (e : Int) < 0 := by omega
                have e1 : (0 : Int) ≤ (e : Int) := by omega
                have e3 : (e : Int) ≤ (T.size : Int) := by omega
                have CC : Hid (∀ w0, Calls Tryd.prog 74 #[.string Vv, .string ⟨#[34]⟩] w0 fun e w' => e = .returned (.bool (cleanQ Vv.data.toList)) ∧ w0 = w') := Lib.hid fun w0 => by
                  have := clean_any Vv ⟨#[34]⟩ w0 (by omega)
                  rw [show (⟨#[34]⟩ : ByteArray).data.toList = [34] from rfl, all_okQ] at this
                  exact this
                clear hIU HST
                cases hc : cleanQ Vv.data.toList with
                | false =>
                  rw [hc] at CC
                  have HE := Lib.hid (HBAD.out (by rw [hVv]; exact valsP_bad (by rw [← hTl]; exact valP_ub hq34 hfo (by rw [← hVl]; exact hc))))
                  clear hfo hVv hq34 hTl hVl hRl hc
                  go_wp2_with (first
                    | (go_at_call 95; refine (CH.out _).mono ?_; rintro e w3 ⟨rfl, rfl⟩)
                    | (go_at_call 77; refine (CU.out _).mono ?_; rintro e w3 ⟨rfl, hb⟩; have HP3 := Lib.hid (HP.out.call hb); clear hb; clear f0 f1 a1 a2 a3 a4 b1 b2 b3; obtain ⟨⟨f0, f1⟩, ⟨a1, a2, a3, a4⟩, b1, b2, b3⟩ := HP3.out.facts))
                  go_quiet (fail)
                  have HPd := Lib.hid (fun n => HP3.out.drewN n)
                  go_wp2_with (go_at_call 74; refine (CC.out _).mono ?_; rintro e w4 ⟨rfl, rfl⟩)
                  have hq1 := fun n => (HPd.out n).fin.1
                  have hq2 := fun n => (HPd.out n).fin.2.1
                  exact bodyPost_ret (v := .tuple #[.agg #[.string G, .slice oa acc.length cap], .string ⟨#[]⟩, .iface 26 (.int .i64 5)]) (by simp [results, Tryd.results78, go_sem, hq1, hq2]) rfl (ParPost.bad HE.out (by decide) (HPd.out _).fin.2.2.1)
                | true =>
                  rw [hc] at CC
                  have hRp : 0 < Rr.size := by omega
                  have hrb := not_empty2 (s := Rr) (by omega)
                  have HNX : Hid (StV V Rr.data.toList false (acc ++ [Vv.data.toList]) g') := Lib.hid (StV.next hVv (by rw [← hTl, hVl, hRl]; exact valP_uo hq34 hfo (by rw [← hVl]; exact hc)))
                  clear hfo hVv hq34 hTl hVl hRl hc
                  go_wp2_with (first
                    | (go_at_call 95; refine (CH.out _).mono ?_; rintro e w3 ⟨rfl, rfl⟩)
                    | (go_at_call 77; refine (CU.out _).mono ?_; rintro e w3 ⟨rfl, hb⟩; have HP3 := Lib.hid (HP.out.call hb); clear hb; clear f0 f1 a1 a2 a3 a4 b1 b2 b3; obtain ⟨⟨f0, f1⟩, ⟨a1, a2, a3, a4⟩, b1, b2, b3⟩ := HP3.out.facts))
                  go_quiet (fail)
                  have HPd := Lib.hid (fun n => HP3.out.drewN n)
                  go_wp2_with (first
                    | (go_at_call 74; refine (CC.out _).mono ?_; rintro e w4 ⟨rfl, rfl⟩)
                    | (at_builtin; refine wpList_append_own _ rfl (.tmp 80) (.tmp 82) 39 rfl (X0 + 1) 9 i0 (.string ⟨#[]⟩) 1 16 Tryd.underlying39 hi0 hz0 hz1 hz2 rfl (by decide) _ acc.length (strV acc) rfl (World.ownsRow.alloc (HPd.out _).2.2.2.2 _) _ 1 1 [.string Vv] rfl rfl (cells_at (by simp) _ _) (by simp [Value.oneCell']) (by unfold maxLen; omega) (by omega) (by have := (HPd.out 0).2.1.2; simp at *; omega) ?_; intro v5 w5 hown hgrow _; have HM5 := Lib.hid ((HPd.out _).more hown hgrow); have hy := (HPd.out _).after hgrow; obtain ⟨y5, y6, y7⟩ := hy; clear hown hgrow; obtain ⟨oa5, cap5, rfl⟩ := HM5.out.form1))
                  go_roundw
                  case rel => exact ⟨_, false, acc ++ [Vv.data.toList], _, g', rfl, rfl, hRp, by rw [List.length_append, List.length_singleton]; omega, by omega, HM5, HNX⟩
                  case measure => simp only; omega
          · have b44 := byte_lit (s := R) (i := 0) (h := hR0) ((head_eq hR0 44).1 hh) 44 rfl
            clear hh
            obtain ⟨T, hT⟩ : ∃ T, R.extract 1 R.size = T := ⟨_, rfl⟩
            have hTl : T.data.toList = R.data.toList.tail := by rw [← hT, tail_list]
            have hTs : T.size + 1 ≤ R.size ∧ R.size ≤ T.size + 1 := by (have h : T.size = R.size - 1 := by rw [← len_eq, hTl, List.length_tail, len_eq]); omega
            have CH : Hid (∀ w0, Calls Tryd.prog 95 #[.string T, .string ⟨#[34]⟩] w0 fun e w' => e = .returned (.bool (decide (T.data.toList.head? = some 34))) ∧ w0 = w') := Lib.hid fun w0 => hp_any T w0
            obtain ⟨oa, cap, rfl⟩ := HP.out.form
            obtain ⟨⟨f0, f1⟩, ⟨a1, a2, a3, a4⟩, b1, b2, b3⟩ := HP.out.facts
            obtain ⟨g', rfl⟩ : ∃ g', g = g' + 1 := ⟨g - 1, by omega⟩
            by_cases hq34 : T.data.toList.head? = some 34
            · have hT1 : 1 ≤ T.size := by
                rw [← len_eq]
                cases hl : T.data.toList with
                | nil => rw [hl] at hq34; cases hq34
                | cons a l => simp
              rw [decide_eq_true hq34] at CH
              obtain ⟨U, hU⟩ : ∃ U, T.extract 1 T.size = U := ⟨_, rfl⟩
              have hUl : U.data.toList = T.data.toList.tail := by rw [← hU, tail_list]
              have hUs : U.size + 1 ≤ T.size ∧ T.size ≤ U.size + 1 := by (have h : U.size = T.size - 1 := by rw [← len_eq, hUl, List.length_tail, len_eq]); omega
              have hIU := fun w0 => ib_fst U 34 34 rfl w0
              have y1 : (1 : Int) ≤ (T.size : Int) := by omega
              cases hfo : fstOf U.data.toList [34] with
              | none =>
                rw [hfo] at hIU
                have CU : Hid (∀ w0, Calls Tryd.prog 46 #[.string U, .int .u8 34] w0 fun e w' => e = .returned (.int .i64 (-1)) ∧ w0 = w') := Lib.hid hIU
                have HE := Lib.hid (HBAD.out (by rw [hVv]; exact valsP_bad (by rw [← hTl]; exact valP_qn hq34 (by rw [← hUl]; exact hfo))))
                clear hIU hfo hVv hq34 hTl hUl HST
                go_wp2_with (first
                  | (go_at_call 95; refine (CH.out _).mono ?_; rintro e w3 ⟨rfl, rfl⟩)
                  | (go_at_call 46; refine (CU.out _).mono ?_; rintro e w3 ⟨rfl, rfl⟩))
                have hq := HP.out.fin
                exact bodyPost_ret (v := .tuple #[.agg #[.string G, .slice oa acc.length cap], .string ⟨#[]⟩, .iface 26 (.int .i64 5)]) (by simp [results, Tryd.results78, go_sem, hq.1, hq.2.1]) rfl (ParPost.bad HE.out (by decide) hq.2.2.1)
              | some e =>
                rw [hfo] at hIU
                have heu : e < U.size := by have := fstOf_lt hfo; rwa [len_eq] at this
                have CU : Hid (∀ w0, Calls Tryd.prog 46 #[.string U, .int .u8 34] w0 fun e' w' => e' = .returned (.int .i64 (e : Int)) ∧ w0 = w') := Lib.hid hIU
                obtain ⟨Vv, hVs⟩ : ∃ Vv, T.extract 1 (e + 1) = Vv := ⟨_, rfl⟩
                obtain ⟨Rr, hRr⟩ : ∃ Rr, T.extract (e + 2) T.size = Rr := ⟨_, rfl⟩
                have hVl : Vv.data.toList = T.data.toList.tail.take e := by rw [← hVs, ext_list, List.drop_one]; simp
                have hRl : Rr.data.toList = T.data.toList.tail.drop (e + 1) := by rw [← hRr, ext_tail, ← List.drop_one, List.drop_drop]; congr 1; omega
                have hRs : Rr.size ≤ T.size - (e + 2) ∧ T.size - (e + 2) ≤ Rr.size := by rw [← hRr, ByteArray.size_extract]; omega
                have hVz : Vv.size ≤ 1048576 := by rw [← hVs, ByteArray.size_extract]; omega
                have e0 : ¬ (e : Int) < 0 := by omega
                have e1 : (0 : Int) ≤ (e : Int) + 1 := by omega
                have e2 : ((e : Int) + 1).toNat = e + 1 := by omega
                have e3 : (e : Int) + 1 ≤ (T.size : Int) := by omega
                have e4 : (1 : Int) ≤ (e : Int) + 1 := by omega
                have e5 : (0 : Int) ≤ (e : Int) + 2 := by omega
                have e6 : ((e : Int) + 2).toNat = e + 2 := by omega
                have e7 : (e : Int) + 2 ≤ (T.size : Int) := by omega
                have w1 : IntKind.i64.wrap ((e : Int) + 1) = (e : Int) + 1 := IntWalk.i64_in _ (by omega)
                have w2 : IntKind.i64.wrap ((e : Int) + 2) = (e : Int) + 2 := IntWalk.i64_in _ (by omega)
                have CC : Hid (∀ w0, Calls Tryd.prog 74 #[.string Vv, .string ⟨#[34]⟩] w0 fun e w' => e = .returned (.bool (cleanQ Vv.data.toList)) ∧ w0 = w') := Lib.hid fun w0 => by
                  have := clean_any Vv ⟨#[34]⟩ w0 (by omega)
                  rw [show (⟨#[34]⟩ : ByteArray).data.toList = [34] from rfl, all_okQ] at this
                  exact this
                rw [hUl] at hfo
                clear hIU HST
                cases hc : cleanQ Vv.data.toList with
                | false =>
                  rw [hc] at CC
                  have HE := Lib.hid (HBAD.out (by rw [hVv]; exact valsP_bad (by rw [← hTl]; exact valP_qb hq34 hfo (.inl (by rw [← hVl]; exact hc)))))
                  clear hfo hVv hq34 hTl hVl hRl hc
                  go_wp2_with (first
                    | (go_at_call 95; refine (CH.out _).mono ?_; rintro e w3 ⟨rfl, rfl⟩)
                    | (go_at_call 46; refine (CU.out _).mono ?_; rintro e w3 ⟨rfl, rfl⟩))
                  go_quiet (fail)
                  have HPd := Lib.hid (fun n => HP.out.drewN n)
                  go_wp2_with (go_at_call 74; refine (CC.out _).mono ?_; rintro e w4 ⟨rfl, rfl⟩)
                  have hq1 := fun n => (HPd.out n).fin.1
                  have hq2 := fun n => (HPd.out n).fin.2.1
                  exact bodyPost_ret (v := .tuple #[.agg #[.string G, .slice oa acc.length cap], .string ⟨#[]⟩, .iface 26 (.int .i64 5)]) (by simp [results, Tryd.results78, go_sem, hq1, hq2]) rfl (ParPost.bad HE.out (by decide) (HPd.out _).fin.2.2.1)
                | true =>
                  rw [hc] at CC
                  by_cases hr0 : Rr.data.toList = []
                  · have HE := Lib.hid (HBAD.out (by rw [hVv]; exact valsP_bad (by rw [← hTl]; exact valP_qb hq34 hfo (.inr (by rw [← hRl]; exact hr0)))))
                    have hrb : Rr.toList.isEmpty = true := by rw [Lib.toList_data, hr0]; rfl
                    clear hfo hVv hq34 hTl hVl hRl hc hr0
                    go_wp2_with (first
                      | (go_at_call 95; refine (CH.out _).mono ?_; rintro e w3 ⟨rfl, rfl⟩)
                      | (go_at_call 46; refine (CU.out _).mono ?_; rintro e w3 ⟨rfl, rfl⟩))
                    go_quiet (fail)
                    have HPd := Lib.hid (fun n => HP.out.drewN n)
                    go_wp2_with (go_at_call 74; refine (CC.out _).mono ?_; rintro e w4 ⟨rfl, rfl⟩)
                    have hq1 := fun n => (HPd.out n).fin.1
                    have hq2 := fun n => (HPd.out n).fin.2.1
                    exact bodyPost_ret (v := .tuple #[.agg #[.string G, .slice oa acc.length cap], .string ⟨#[]⟩, .iface 26 (.int .i64 5)]) (by simp [results, Tryd.results78, go_sem, hq1, hq2]) rfl (ParPost.bad HE.out (by decide) (HPd.out _).fin.2.2.1)
                  · have hrb := not_empty hr0
                    have hRp : 0 < Rr.size := by rw [← len_eq]; exact List.length_pos_iff.2 hr0
                    have HNX : Hid (StV V Rr.data.toList false (acc ++ [Vv.data.toList]) g') := Lib.hid (StV.next hVv (by rw [← hTl, hVl, hRl]; exact valP_qo hq34 hfo (by rw [← hVl, ← hRl]; exact fun h => h.elim (fun h => absurd (hc.symm.trans h) (by decide)) (fun h => hr0 h))))
                    clear hfo hVv hq34 hTl hVl hRl hc hr0
                    go_wp2_with (first
                      | (go_at_call 95; refine (CH.out _).mono ?_; rintro e w3 ⟨rfl, rfl⟩)
                      | (go_at_call 46; refine (CU.out _).mono ?_; rintro e w3 ⟨rfl, rfl⟩))
                    go_quiet (fail)
                    have HPd := Lib.hid (fun n => HP.out.drewN n)
                    go_wp2_with (first
                      | (go_at_call 74; refine (CC.out _).mono ?_; rintro e w4 ⟨rfl, rfl⟩)
                      | (at_builtin; refine wpList_append_own _ rfl (.tmp 80) (.tmp 82) 39 rfl (X0 + 1) 9 i0 (.string ⟨#[]⟩) 1 16 Tryd.underlying39 hi0 hz0 hz1 hz2 rfl (by decide) _ acc.length (strV acc) rfl (World.ownsRow.alloc (HPd.out _).2.2.2.2 _) _ 1 1 [.string Vv] rfl rfl (cells_at (by simp) _ _) (by simp [Value.oneCell']) (by unfold maxLen; omega) (by omega) (by have := (HPd.out 0).2.1.2; simp at *; omega) ?_; intro v5 w5 hown hgrow _; have HM5 := Lib.hid ((HPd.out _).more hown hgrow); have hy := (HPd.out _).after hgrow; obtain ⟨y5, y6, y7⟩ := hy; clear hown hgrow; obtain ⟨oa5, cap5, rfl⟩ := HM5.out.form1))
                    go_roundw
                    case rel => exact ⟨_, false, acc ++ [Vv.data.toList], _, g', rfl, rfl, hRp, by rw [List.length_append, List.length_singleton]; omega, by omega, HM5, HNX⟩
                    case measure => simp only; omega
            · rw [decide_eq_false hq34] at CH
              have hIU := fun w0 => ia_fst T ⟨#[44, 59, 58]⟩ w0 (by decide) (by decide) (by omega) three_ascii
              cases hfo : fstOf T.data.toList [44, 59, 58] with
              | none =>
                rw [show (⟨#[44, 59, 58]⟩ : ByteArray).data.toList = [44, 59, 58] from rfl, hfo] at hIU
                have CU : Hid (∀ w0, Calls Tryd.prog 77 #[.string T, .string ⟨#[44, 59, 58]⟩] w0 fun e w' => e = .returned (.int .i64 (-1)) ∧ Below w0.heap.size w0 w') := Lib.hid hIU
                have HE := Lib.hid (HBAD.out (by rw [hVv]; exact valsP_bad (by rw [← hTl]; exact valP_un hq34 hfo)))
                clear hIU hfo hVv hq34 hTl HST
                go_wp2_with (first
                  | (go_at_call 95; refine (CH.out _).mono ?_; rintro e w3 ⟨rfl, rfl⟩)
                  | (go_at_call 77; refine (CU.out _).mono ?_; rintro e w3 ⟨rfl, hb⟩; have HP3 := Lib.hid (HP.out.call hb); clear hb; clear f0 f1 a1 a2 a3 a4 b1 b2 b3; obtain ⟨⟨f0, f1⟩, ⟨a1, a2, a3, a4⟩, b1, b2, b3⟩ := HP3.out.facts))
                have hq := HP3.out.fin
                exact bodyPost_ret (v := .tuple #[.agg #[.string G, .slice oa acc.length cap], .string ⟨#[]⟩, .iface 26 (.int .i64 5)]) (by simp [results, Tryd.results78, go_sem, hq.1, hq.2.1]) rfl (ParPost.bad HE.out (by decide) hq.2.2.1)
              | some e =>
                rw [show (⟨#[44, 59, 58]⟩ : ByteArray).data.toList = [44, 59, 58] from rfl, hfo] at hIU
                have heu : e < T.size := by have := fstOf_lt hfo; rwa [len_eq] at this
                have CU : Hid (∀ w0, Calls Tryd.prog 77 #[.string T, .string ⟨#[44, 59, 58]⟩] w0 fun e' w' => e' = .returned (.int .i64 (e : Int)) ∧ Below w0.heap.size w0 w') := Lib.hid hIU
                obtain ⟨Vv, hVs⟩ : ∃ Vv, T.extract 0 e = Vv := ⟨_, rfl⟩
                obtain ⟨Rr, hRr⟩ : ∃ Rr, T.extract e T.size = Rr := ⟨_, rfl⟩
                have hVl : Vv.data.toList = T.data.toList.take e := by rw [← hVs, ext_to]
                have hRl : Rr.data.toList = T.data.toList.drop e := by rw [← hRr, ext_tail]
                have hRs : Rr.size ≤ T.size - e ∧ T.size - e ≤ Rr.size := by rw [← hRr, ByteArray.size_extract]; omega
                have hVz : Vv.size ≤ 1048576 := by rw [← hVs, ByteArray.size_extract]; omega
                have e0 : ¬ (e : Int) < 0 := by omega
                have e1 : (0 : Int) ≤ (e : Int) := by omega
                have e3 : (e : Int) ≤ (T.size : Int) := by omega
                have CC : Hid (∀ w0, Calls Tryd.prog 74 #[.string Vv, .string ⟨#[34]⟩] w0 fun e w' => e = .returned (.bool (cleanQ Vv.data.toList)) ∧ w0 = w') := Lib.hid fun w0 => by
                  have := clean_any Vv ⟨#[34]⟩ w0 (by omega)
                  rw [show (⟨#[34]⟩ : ByteArray).data.toList = [34] from rfl, all_okQ] at this
                  exact this
                clear hIU HST
                cases hc : cleanQ Vv.data.toList with
                | false =>
                  rw [hc] at CC
                  have HE := Lib.hid (HBAD.out (by rw [hVv]; exact valsP_bad (by rw [← hTl]; exact valP_ub hq34 hfo (by rw [← hVl]; exact hc))))
                  clear hfo hVv hq34 hTl hVl hRl hc
                  go_wp2_with (first
                    | (go_at_call 95; refine (CH.out _).mono ?_; rintro e w3 ⟨rfl, rfl⟩)
                    | (go_at_call 77; refine (CU.out _).mono ?_; rintro e w3 ⟨rfl, hb⟩; have HP3 := Lib.hid (HP.out.call hb); clear hb; clear f0 f1 a1 a2 a3 a4 b1 b2 b3; obtain ⟨⟨f0, f1⟩, ⟨a1, a2, a3, a4⟩, b1, b2, b3⟩ := HP3.out.facts))
                  go_quiet (fail)
                  have HPd := Lib.hid (fun n => HP3.out.drewN n)
                  go_wp2_with (go_at_call 74; refine (CC.out _).mono ?_; rintro e w4 ⟨rfl, rfl⟩)
                  have hq1 := fun n => (HPd.out n).fin.1
                  have hq2 := fun n => (HPd.out n).fin.2.1
                  exact bodyPost_ret (v := .tuple #[.agg #[.string G, .slice oa acc.length cap], .string ⟨#[]⟩, .iface 26 (.int .i64 5)]) (by simp [results, Tryd.results78, go_sem, hq1, hq2]) rfl (ParPost.bad HE.out (by decide) (HPd.out _).fin.2.2.1)
                | true =>
                  rw [hc] at CC
                  have hRp : 0 < Rr.size := by omega
                  have hrb := not_empty2 (s := Rr) (by omega)
                  have HNX : Hid (StV V Rr.data.toList false (acc ++ [Vv.data.toList]) g') := Lib.hid (StV.next hVv (by rw [← hTl, hVl, hRl]; exact valP_uo hq34 hfo (by rw [← hVl]; exact hc)))
                  clear hfo hVv hq34 hTl hVl hRl hc
                  go_wp2_with (first
                    | (go_at_call 95; refine (CH.out _).mono ?_; rintro e w3 ⟨rfl, rfl⟩)
                    | (go_at_call 77; refine (CU.out _).mono ?_; rintro e w3 ⟨rfl, hb⟩; have HP3 := Lib.hid (HP.out.call hb); clear hb; clear f0 f1 a1 a2 a3 a4 b1 b2 b3; obtain ⟨⟨f0, f1⟩, ⟨a1, a2, a3, a4⟩, b1, b2, b3⟩ := HP3.out.facts))
                  go_quiet (fail)
                  have HPd := Lib.hid (fun n => HP3.out.drewN n)
                  go_wp2_with (first
                    | (go_at_call 74; refine (CC.out _).mono ?_; rintro e w4 ⟨rfl, rfl⟩)
                    | (at_builtin; refine wpList_append_own _ rfl (.tmp 80) (.tmp 82) 39 rfl (X0 + 1) 9 i0 (.string ⟨#[]⟩) 1 16 Tryd.underlying39 hi0 hz0 hz1 hz2 rfl (by decide) _ acc.length (strV acc) rfl (World.ownsRow.alloc (HPd.out _).2.2.2.2 _) _ 1 1 [.string Vv] rfl rfl (cells_at (by simp) _ _) (by simp [Value.oneCell']) (by unfold maxLen; omega) (by omega) (by have := (HPd.out 0).2.1.2; simp at *; omega) ?_; intro v5 w5 hown hgrow _; have HM5 := Lib.hid ((HPd.out _).more hown hgrow); have hy := (HPd.out _).after hgrow; obtain ⟨y5, y6, y7⟩ := hy; clear hown hgrow; obtain ⟨oa5, cap5, rfl⟩ := HM5.out.form1))
                  go_roundw
                  case rel => exact ⟨_, false, acc ++ [Vv.data.toList], _, g', rfl, rfl, hRp, by rw [List.length_append, List.length_singleton]; omega, by omega, HM5, HNX⟩
                  case measure => simp only; omega
        · have b44 := byte_not (s := R) (i := 0) (h := hR0) (v := 44) (fun e => hne ((head_eq hR0 44).2 e)) 44 rfl
          obtain ⟨oa, cap, rfl⟩ := HP.out.form
          obtain ⟨⟨f0, f1⟩, ⟨a1, a2, a3, a4⟩, b1, b2, b3⟩ := HP.out.facts
          have hq := HP.out.fin
          have HQ := Lib.hid hq
          clear hq
          by_cases h59 : R[0] = 59
          · have c1 := byte_lit (s := R) (i := 0) (h := hR0) h59 59 rfl
            have c2 : ((R[0].toNat : Int) != 59) = false := by rw [bne, c1]; rfl
            have hV1 : V = (0, acc, R.data.toList) := by rw [hVv]; exact if_pos (.inl ((head_eq hR0 59).2 h59))
            have HO := Lib.hid (HOK.out (by rw [hV1]))
            rw [hV1] at HO
            clear hV1 hVv hne HST h59
            go_wp2_with fail
            have hq := HQ.out
            exact bodyPost_ret (v := .tuple #[.agg #[.string G, .slice oa acc.length cap], .string R, .nilIface]) (by simp [results, Tryd.results78, go_sem, hq.1, hq.2.1]) rfl ⟨fun _ => ⟨_, by rw [HO.out, bs_of], by rw [HO.out]; exact hq.2.2.2⟩, fun h => absurd (by rw [HO.out]) h, hq.2.2.1⟩
          · have c1 := byte_not (s := R) (i := 0) (h := hR0) h59 59 rfl
            have c2 : ((R[0].toNat : Int) != 59) = true := by rw [bne, c1]; rfl
            by_cases h58 : R[0] = 58
            · have d1 := byte_lit (s := R) (i := 0) (h := hR0) h58 58 rfl
              have d2 : ((R[0].toNat : Int) != 58) = false := by rw [bne, d1]; rfl
              have hV1 : V = (0, acc, R.data.toList) := by rw [hVv]; exact if_pos (.inr ((head_eq hR0 58).2 h58))
              have HO := Lib.hid (HOK.out (by rw [hV1]))
              rw [hV1] at HO
              clear hV1 hVv hne HST h59 h58
              go_wp2_with fail
              have hq := HQ.out
              exact bodyPost_ret (v := .tuple #[.agg #[.string G, .slice oa acc.length cap], .string R, .nilIface]) (by simp [results, Tryd.results78, go_sem, hq.1, hq.2.1]) rfl ⟨fun _ => ⟨_, by rw [HO.out, bs_of], by rw [HO.out]; exact hq.2.2.2⟩, fun h => absurd (by rw [HO.out]) h, hq.2.2.1⟩
            · have d1 := byte_not (s := R) (i := 0) (h := hR0) h58 58 rfl
              have d2 : ((R[0].toNat : Int) != 58) = true := by rw [bne, d1]; rfl
              have HE := Lib.hid (HBAD.out (by rw [hVv]; exact endV_bad (fun h => h59 ((head_eq hR0 59).1 h)) (fun h => h58 ((head_eq hR0 58).1 h))))
              clear hVv hne HST h59 h58
              go_wp2_with fail
              have hq := HQ.out
              exact bodyPost_ret (v := .tuple #[.agg #[.string G, .slice oa acc.length cap], .string ⟨#[]⟩, .iface 26 (.int .i64 5)]) (by simp [results, Tryd.results78, go_sem, hq.1, hq.2.1]) rfl (ParPost.bad HE.out (by decide) hq.2.2.1)
end Go.Proofs.YtidgahnamdhflaaDoor
