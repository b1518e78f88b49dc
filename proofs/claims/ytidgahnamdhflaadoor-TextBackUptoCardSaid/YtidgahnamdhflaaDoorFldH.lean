/- The document's Unfold. -/
import Derived.Test.YtidgahnamdhflaaDoorFldG
namespace Go.Proofs.YtidgahnamdhflaaDoor
open Go.RowKit Go.Shelf Fld
theorem StrL.low {w : World} {b c : Nat} {v : Value} {l : List (List UInt8)} (h : StrL w c v l) (hb : b ≤ c) : StrL w b v l := by
  refine ⟨h.1, ?_⟩
  rcases h.2 with h2 | ⟨g, cap, cur, h3, h4, h5⟩
  · exact .inl h2
  · exact .inr ⟨g, cap, cur, h3, Nat.le_trans hb h4, h5⟩
theorem slice_cap {w : World} {b : Nat} {oa : Option Addr} {n cap : Nat} {l : List (List UInt8)} (h : StrL w b (.slice oa n cap) l) : (n : Int) ≤ (cap : Int) := by
  rcases h.2 with ⟨h2, h3⟩ | ⟨g, c, cur, h3, h4, h5, h6, h7⟩
  · cases h2; omega
  · cases h3; omega
theorem linesOf_at (l : List UInt8) (k : Nat) (h : k < (linesOf l).length) : (linesOf l).getD k [] = (splitC 10 l).getD k [] := by
  unfold linesOf at *
  split at h
  · rename_i h1
    rw [if_pos h1]
    rw [List.length_dropLast] at h
    simp only [List.getD, List.getElem?_dropLast, if_pos h]
  · rename_i h1
    rw [if_neg h1]
theorem getLast_at (l : List (List UInt8)) (h : l ≠ []) (m : Nat) (hm : l.length = m + 1) : l.getD m [] = l.getLast h := by
  rw [List.getLast_eq_getElem, List.getD, List.getElem?_eq_getElem (by omega)]
  simp [hm]
theorem lines_len (l : List UInt8) (m : Nat) (hm : (splitC 10 l).length = m + 1) : (linesOf l).length = if (splitC 10 l).getD m [] = [] then m else m + 1 := by
  rw [getLast_at _ (splitC_ne 10 l) m hm]
  unfold linesOf
  split <;> simp [hm]
theorem trimR_cr (l : List UInt8) (z : Nat) (h : l.length = z + 1) (hb : l.getD z 0 = 13) : trimR l = l.take z := by
  have e : l.getLast? = some 13 := by
    rw [List.getLast?_eq_getElem?, h, Nat.add_sub_cancel, List.getElem?_eq_getElem (by omega)]
    rw [List.getD, List.getElem?_eq_getElem (by omega)] at hb
    exact congrArg some hb
  unfold trimR
  rw [if_pos e, List.dropLast_eq_take, h, Nat.add_sub_cancel]
theorem trimR_no (l : List UInt8) (z : Nat) (h : l.length = z + 1) (hb : l.getD z 0 ≠ 13) : trimR l = l := by
  have e : l.getLast? ≠ some 13 := by
    rw [List.getLast?_eq_getElem?, h, Nat.add_sub_cancel, List.getElem?_eq_getElem (by omega)]
    rw [List.getD, List.getElem?_eq_getElem (by omega)] at hb
    exact fun hc => hb (Option.some.inj hc)
  unfold trimR
  rw [if_neg e]
theorem foldl_flat (xs acc : List (List UInt8)) : (xs.foldl stepU acc).flatten.length ≤ acc.flatten.length + xs.flatten.length ∧ (xs.foldl stepU acc).length ≤ acc.length + xs.length := by
  induction xs generalizing acc with
  | nil => simp
  | cons x xs ih =>
    have h1 := ih (stepU acc x)
    have h2 := stepU_flat acc x
    simp only [List.foldl_cons, List.flatten_cons, List.length_append, List.length_cons]
    omega
theorem take_flat (xs : List (List UInt8)) (k : Nat) : (xs.take k).flatten.length ≤ xs.flatten.length := by
  have h := congrArg (fun l => (List.flatten l).length) (List.take_append_drop k xs)
  simp only [List.flatten_append, List.length_append] at h
  omega
theorem foldl_snoc (xs : List (List UInt8)) (k : Nat) (h : k < xs.length) : (xs.take (k + 1)).foldl stepU [] = stepU ((xs.take k).foldl stepU []) (xs.getD k []) := by
  rw [List.take_succ_eq_append_getElem h, List.foldl_append]
  simp [List.getD, h]
set_option maxRecDepth 100000 in
set_option maxHeartbeats 16000000 in
theorem runfold_any (s : ByteArray) (w : World) (hs : s.size ≤ 1048576) :
    Calls Tryd.prog 25 #[.string s] w (TxtR (unfL s.data.toList) w) := by
  obtain ⟨i0, hi0, hz0, hz1, hz2⟩ := info_parts str_info
  have c1 := cuts_any s 10 10 rfl w hs
  have C1 := Lib.hid c1
  clear c1
  have hsp := splitC_flat 10 s.data.toList
  rw [len_eq] at hsp
  obtain ⟨m, hm⟩ : ∃ m, (splitC 10 s.data.toList).length = m + 1 := by
    have := List.length_pos_iff.2 (splitC_ne 10 s.data.toList)
    exact ⟨(splitC 10 s.data.toList).length - 1, by omega⟩
  have hms : m ≤ 1048576 := by omega
  have hLN := lines_len _ m hm
  have HFL := Lib.hid (linesOf_flat s.data.toList)
  have HM := Lib.hid hm
  have HAT := Lib.hid (linesOf_at s.data.toList)
  have HUN : Hid ((linesOf s.data.toList).foldl stepU [] = unfL s.data.toList) := Lib.hid rfl
  clear hsp hm
  obtain ⟨E, hE⟩ : ∃ E : ByteArray, (⟨((splitC 10 s.data.toList).getD m []).toArray⟩ : ByteArray) = E := ⟨_, rfl⟩
  have hEl : (splitC 10 s.data.toList).getD m [] = E.data.toList := by rw [← hE]
  rw [hEl] at hLN
  have HE := Lib.hid hE
  clear hE hEl
  have k0 : IntKind.i64.wrap (m : Int) = (m : Int) := IntWalk.i64_in _ (by omega)
  have k1 : (0 : Int) ≤ (m : Int) := by omega
  have k2 : (m : Int) < (m : Int) + 1 := by omega
  obtain ⟨L, hL⟩ : ∃ L, linesOf s.data.toList = L := ⟨_, rfl⟩
  rw [hL] at hLN HAT HUN HFL
  clear hL
  by_cases hE0 : E.data.toList = []
  · rw [if_pos hE0] at hLN
    have HLN := Lib.hid hLN
    have hEe : E.toList.isEmpty = true := by rw [ByteArray.toList_eq, hE0]; rfl
    clear hLN hE0
    go_enter Tryd.func25, Tryd.ntmps25
    go_wp2_with (go_at_call 41; refine C1.out.mono ?_; rintro e w1 ⟨v1, rfl, h1, hb1⟩; obtain ⟨oa, cap, hv1⟩ := h1.form; rw [HM.out] at hv1; subst hv1; have hmc := (slice_cap h1); obtain ⟨g, hoa, hgb, hgz, hcE, -⟩ := h1.at (show m < _ by rw [HM.out]; omega); subst hoa; rw [HE.out] at hcE; have H1 := Lib.hid h1; have HB1 := Lib.hid hb1; clear h1 hb1)
    go_loopw [4, 23] (fun v c wr => ∃ (ob : Option Addr) (n cap2 : Nat) (acc : List (List UInt8)) (k : Nat), v = .slice ob n cap2 ∧ c = .int .i64 (k : Int) ∧ k ≤ m ∧ n ≤ k ∧ Hid (acc.length = n ∧ wr.ownsRow w1.heap.size 9 1 (.slice ob n cap2) n (strV acc) ∧ Below w1.heap.size w1 wr ∧ acc = (L.take k).foldl stepU [])) (fun _ c _ => m - (intOf c).toNat)
    case atStart => exact ⟨none, 0, 0, [], 0, rfl, rfl, by omega, by omega, Lib.hid ⟨rfl, World.ownsRow_nil _ _ _ _, Below.refl _ _, rfl⟩⟩
    case round =>
      obtain ⟨ob, n, cap2, acc, k, rfl, rfl, hk, hn, HR⟩ := hrel
      obtain ⟨wA, rfl⟩ : ∃ wo : World, wo = wr := ⟨_, rfl⟩
      by_cases hkM : k < m
      · obtain ⟨_, e0, _, _, hcx, _⟩ := (H1.out.call HR.out.2.2.1).at (k := k) (by rw [HM.out]; omega)
        cases e0
        have hkL : k < L.length := by rw [HLN.out]; exact hkM
        obtain ⟨x, hx⟩ : ∃ x, L.getD k [] = x := ⟨_, rfl⟩
        rw [← HAT.out k hkL, hx] at hcx
        have hxl : x.length ≤ s.size := by have h1 := getD_flat L k; have h2 := HFL.out.1; rw [hx] at h1; rw [len_eq] at h2; omega
        have HNX : Hid (stepU acc x = (L.take (k + 1)).foldl stepU []) := Lib.hid (by rw [foldl_snoc L k hkL, hx, ← HR.out.2.2.2])
        have HFT : Hid (acc.flatten.length ≤ s.size) := Lib.hid (by have h1 := (foldl_flat (L.take k) []).1; rw [← HR.out.2.2.2] at h1; have h2 := take_flat L k; have h3 := HFL.out.1; rw [len_eq] at h3; have h4 : ([] : List (List UInt8)).flatten.length = 0 := rfl; omega)
        obtain ⟨X, hX⟩ : ∃ X : ByteArray, (⟨x.toArray⟩ : ByteArray) = X := ⟨_, rfl⟩
        have hXl : X.data.toList = x := by rw [← hX]
        have hXs : X.size = x.length := by rw [← len_eq, hXl]
        rw [hX] at hcx
        have j1 : (0 : Int) ≤ (k : Int) := by omega
        have HX := Lib.hid hX
        clear hx hX hkL
        by_cases hx0 : x = []
        · subst hx0
          have hX0 : X.toList.isEmpty = true := by rw [ByteArray.toList_eq, hXl]; rfl
          have HY : Hid (trimR [] = []) := Lib.hid rfl
          have HST := Lib.hid (stepU_app acc [] (.inl (by rw [HY.out]; rfl)))
          have HYE := HX
          clear hXl hXs
          go_wp2_with (at_builtin; refine wpList_append_own _ rfl (.tmp 73) (.tmp 75) 39 rfl w1.heap.size 9 i0 (.string ⟨#[]⟩) 1 16 Tryd.underlying39 hi0 hz0 hz1 hz2 rfl (by decide) _ n (strV acc) rfl (HR.out.2.1.alloc _) _ 1 1 [.string X] rfl rfl (cells_at (by simp) _ _) (by simp [Value.oneCell']) (by unfold maxLen; omega) (by omega) (by have := HR.out.2.2.1.size; simp; omega) ?_; intro v3 w3 hown hgrow _)
          obtain ⟨g3, c3, hv3, _, _⟩ := hown.form (by omega)
          subst hv3
          have HB3 := Lib.hid ((HR.out.2.2.1.alloc HR.out.2.2.1.size _).grown hgrow (by have := HR.out.2.2.1.size; simp; omega) (fun k hk => (HR.out.2.1.lt k hk).1))
          have HO3 : Hid (w3.ownsRow w1.heap.size 9 1 (.slice (some ⟨g3, 0, none⟩) (n + 1) c3) (n + 1) (strV (stepU acc []))) := Lib.hid (by rw [HST.out, HY.out, strV_snoc, HYE.out]; exact hown)
          have HL3 : Hid ((stepU acc []).length = n + 1) := Lib.hid (by rw [HST.out, List.length_append, HR.out.1]; rfl)
          clear hown hgrow
          go_wp2_with fail
          go_roundw
          case rel => exact ⟨some ⟨g3, 0, none⟩, n + 1, c3, stepU acc [], k + 1, rfl, by go_num, by omega, by omega, Lib.hid ⟨HL3.out, HO3.out, HB3.out, HNX.out⟩⟩
          case measure => simp [intOf]; omega
        · obtain ⟨z, hz⟩ : ∃ z, x.length = z + 1 := ⟨x.length - 1, by have := List.length_pos_iff.2 hx0; omega⟩
          have hX0 := not_empty (r := X) (by rw [hXl]; exact hx0)
          have hXz : X.size = z + 1 := by omega
          have hzX : z < X.size := by omega
          have gz := getD_byte X z hzX
          rw [hXl] at gz
          have hzs : z + 1 ≤ s.size := by omega
          by_cases hcr : x.getD z 0 = 13
          · have HY := Lib.hid (trimR_cr x z hz hcr)
            have b13 : ((X[z].toNat : Int) == 13) = true := by rw [← gz, hcr]; rfl
            obtain ⟨y, hy⟩ : ∃ y, x.take z = y := ⟨_, rfl⟩
            rw [hy] at HY
            obtain ⟨Y, hXY⟩ : ∃ Y, X.extract 0 z = Y := ⟨_, rfl⟩
            have hYl : Y.data.toList = y := by rw [← hXY, ext_to, hXl]; exact hy
            have HYE : Hid ((⟨y.toArray⟩ : ByteArray) = Y) := Lib.hid (by rw [← hYl])
            have hYs : Y.size = y.length := by rw [← len_eq, hYl]
            have hYs2 : Y.size ≤ s.size := by rw [← hXY, ByteArray.size_extract]; omega
            have HYL := Lib.hid hYl
            clear hcr gz hy hYl hXl hXs hz hx0 hxl
            by_cases hy0 : y = []
            · have HST := Lib.hid (stepU_app acc x (.inl (by rw [HY.out, hy0]; rfl)))
              have hYb : Y.toList.isEmpty = true := by rw [ByteArray.toList_eq, HYL.out, hy0]; rfl
              clear hy0 hYs
              go_wp2_with (at_builtin; refine wpList_append_own _ rfl (.tmp 73) (.tmp 75) 39 rfl w1.heap.size 9 i0 (.string ⟨#[]⟩) 1 16 Tryd.underlying39 hi0 hz0 hz1 hz2 rfl (by decide) _ n (strV acc) rfl (HR.out.2.1.alloc _) _ 1 1 [.string Y] rfl rfl (cells_at (by simp) _ _) (by simp [Value.oneCell']) (by unfold maxLen; omega) (by omega) (by have := HR.out.2.2.1.size; simp; omega) ?_; intro v3 w3 hown hgrow _)
              obtain ⟨g3, c3, hv3, _, _⟩ := hown.form (by omega)
              subst hv3
              have HB3 := Lib.hid ((HR.out.2.2.1.alloc HR.out.2.2.1.size _).grown hgrow (by have := HR.out.2.2.1.size; simp; omega) (fun k hk => (HR.out.2.1.lt k hk).1))
              have HO3 : Hid (w3.ownsRow w1.heap.size 9 1 (.slice (some ⟨g3, 0, none⟩) (n + 1) c3) (n + 1) (strV (stepU acc x))) := Lib.hid (by rw [HST.out, HY.out, strV_snoc, HYE.out]; exact hown)
              have HL3 : Hid ((stepU acc x).length = n + 1) := Lib.hid (by rw [HST.out, List.length_append, HR.out.1]; rfl)
              clear hown hgrow
              go_wp2_with fail
              go_roundw
              case rel => exact ⟨some ⟨g3, 0, none⟩, n + 1, c3, stepU acc x, k + 1, rfl, by go_num, by omega, by omega, Lib.hid ⟨HL3.out, HO3.out, HB3.out, HNX.out⟩⟩
              case measure => simp [intOf]; omega
            · obtain ⟨b, y', rfl⟩ := List.exists_cons_of_ne_nil hy0
              have hYb := not_empty (r := Y) (by rw [HYL.out]; exact hy0)
              have hY0 : 0 < Y.size := by rw [hYs]; simp
              have g0 : Y[0] = b := by have h := getD_byte Y 0 hY0; rw [HYL.out] at h; exact h.symm
              have HGE := Lib.hid (goes_hit b y')
              clear hy0 hYs
              by_cases h32 : b = 32
              · have b1 : ((b.toNat : Int) == 32) = true := by rw [h32]; rfl
                have HG : Hid (goes (b :: y') = true) := Lib.hid (by rw [HGE.out, h32]; rfl)
                clear h32
                by_cases hn0 : n = 0
                · subst hn0
                  have HST := Lib.hid (stepU_app acc x (.inr (List.eq_nil_of_length_eq_zero HR.out.1)))
                  go_wp2_with (at_builtin; refine wpList_append_own _ rfl (.tmp 73) (.tmp 75) 39 rfl w1.heap.size 9 i0 (.string ⟨#[]⟩) 1 16 Tryd.underlying39 hi0 hz0 hz1 hz2 rfl (by decide) _ 0 (strV acc) rfl (HR.out.2.1.alloc _) _ 1 1 [.string Y] rfl rfl (cells_at (by simp) _ _) (by simp [Value.oneCell']) (by unfold maxLen; omega) (by omega) (by have := HR.out.2.2.1.size; simp; omega) ?_; intro v3 w3 hown hgrow _)
                  obtain ⟨g3, c3, hv3, _, _⟩ := hown.form (by omega)
                  subst hv3
                  have HB3 := Lib.hid ((HR.out.2.2.1.alloc HR.out.2.2.1.size _).grown hgrow (by have := HR.out.2.2.1.size; simp; omega) (fun k hk => (HR.out.2.1.lt k hk).1))
                  have HO3 : Hid (w3.ownsRow w1.heap.size 9 1 (.slice (some ⟨g3, 0, none⟩) (0 + 1) c3) (0 + 1) (strV (stepU acc x))) := Lib.hid (by rw [HST.out, HY.out, strV_snoc, HYE.out]; exact hown)
                  have HL3 : Hid ((stepU acc x).length = 0 + 1) := Lib.hid (by rw [HST.out, List.length_append, HR.out.1]; rfl)
                  clear hown hgrow
                  go_wp2_with fail
                  go_roundw
                  case rel => exact ⟨some ⟨g3, 0, none⟩, 0 + 1, c3, stepU acc x, k + 1, rfl, by go_num, by omega, by omega, Lib.hid ⟨HL3.out, HO3.out, HB3.out, HNX.out⟩⟩
                  case measure => simp [intOf]; omega
                · have hn1 : 0 < n := by omega
                  obtain ⟨q, rfl⟩ : ∃ q, n = q + 1 := ⟨n - 1, by omega⟩
                  obtain ⟨LS, hLS⟩ : ∃ LS : ByteArray, (⟨(acc.getD q []).toArray⟩ : ByteArray) = LS := ⟨_, rfl⟩
                  have hLl : LS.data.toList = acc.getD q [] := by rw [← hLS]
                  have hLz : LS.size ≤ s.size := by have h1 := getD_flat acc q; have h2 := HFT.out; rw [← hLl, len_eq] at h1; omega
                  obtain ⟨g4, hoa, hgb4, hgz4, hc, hf⟩ := StrL.at (b := w1.heap.size) (w := wA) (oa := ob) (n := q + 1) (cap := cap2) (l := acc) (k := q) (by unfold StrL; rw [HR.out.1]; exact HR.out.2.1) (by rw [HR.out.1]; omega)
                  subst hoa
                  rw [hLS] at hc
                  have HST : Hid (stepU acc x = acc.set q (LS ++ Y.extract 1 Y.size).data.toList) := Lib.hid (by rw [stepU_join acc _ q HR.out.1 (by rw [HY.out]; exact HG.out), HY.out, ByteArray.data_append, Array.toList_append, hLl, ext_from, HYL.out])
                  have q0 : IntKind.i64.wrap (q : Int) = (q : Int) := IntWalk.i64_in _ (by omega)
                  have q1 : (0 : Int) ≤ (q : Int) := by omega
                  have q2 : (q : Int) < (q : Int) + 1 := by omega
                  have q3 : (1 : Int) ≤ (Y.size : Int) := by omega
                  have hEx : (Y.extract 1 Y.size).size ≤ s.size := by rw [ByteArray.size_extract]; omega
                  clear hLl hLS
                  go_wp2_with fail
                  go_region
                  have HO3 : Hid (StrL (wA.setCell ⟨g4, q, none⟩ (.string (LS ++ Y.extract 1 Y.size))).drew w1.heap.size (.slice (some ⟨g4, 0, none⟩) (q + 1) cap2) (stepU acc x)) := Lib.hid (by rw [HST.out]; exact StrL.set (w := wA) (by unfold StrL; rw [HR.out.1]; exact HR.out.2.1) q _)
                  have HB3 := Lib.hid (below_drew (HR.out.2.2.1.setCell (p := ⟨g4, q, none⟩) hgb4 (.string (LS ++ Y.extract 1 Y.size))))
                  have HL3 : Hid ((stepU acc x).length = q + 1) := Lib.hid (by rw [HST.out, List.length_set, HR.out.1])
                  clear hc hf
                  go_wp2_with fail
                  go_roundw
                  case rel => exact ⟨some ⟨g4, 0, none⟩, q + 1, cap2, stepU acc x, k + 1, rfl, by go_num, by omega, by omega, Lib.hid ⟨HL3.out, by have h := HO3.out; unfold StrL at h; rw [HL3.out] at h; exact h, HB3.out, HNX.out⟩⟩
                  case measure => simp [intOf]; omega
              · have hb32 : ((b.toNat : Int) == 32) = false := by simpa using fun h : (b.toNat : Int) = 32 => h32 (UInt8.toNat_inj.1 (by show b.toNat = 32; omega))
                by_cases h9 : b = 9
                · have b1 : ((b.toNat : Int) == 9) = true := by rw [h9]; rfl
                  have b0 : ((b.toNat : Int) == 32) = false := by rw [h9]; rfl
                  have HG : Hid (goes (b :: y') = true) := Lib.hid (by rw [HGE.out, h9]; rfl)
                  clear h9
                  by_cases hn0 : n = 0
                  · subst hn0
                    have HST := Lib.hid (stepU_app acc x (.inr (List.eq_nil_of_length_eq_zero HR.out.1)))
                    go_wp2_with (at_builtin; refine wpList_append_own _ rfl (.tmp 73) (.tmp 75) 39 rfl w1.heap.size 9 i0 (.string ⟨#[]⟩) 1 16 Tryd.underlying39 hi0 hz0 hz1 hz2 rfl (by decide) _ 0 (strV acc) rfl (HR.out.2.1.alloc _) _ 1 1 [.string Y] rfl rfl (cells_at (by simp) _ _) (by simp [Value.oneCell']) (by unfold maxLen; omega) (by omega) (by have := HR.out.2.2.1.size; simp; omega) ?_; intro v3 w3 hown hgrow _)
                    obtain ⟨g3, c3, hv3, _, _⟩ := hown.form (by omega)
                    subst hv3
                    have HB3 := Lib.hid ((HR.out.2.2.1.alloc HR.out.2.2.1.size _).grown hgrow (by have := HR.out.2.2.1.size; simp; omega) (fun k hk => (HR.out.2.1.lt k hk).1))
                    have HO3 : Hid (w3.ownsRow w1.heap.size 9 1 (.slice (some ⟨g3, 0, none⟩) (0 + 1) c3) (0 + 1) (strV (stepU acc x))) := Lib.hid (by rw [HST.out, HY.out, strV_snoc, HYE.out]; exact hown)
                    have HL3 : Hid ((stepU acc x).length = 0 + 1) := Lib.hid (by rw [HST.out, List.length_append, HR.out.1]; rfl)
                    clear hown hgrow
                    go_wp2_with fail
                    go_roundw
                    case rel => exact ⟨some ⟨g3, 0, none⟩, 0 + 1, c3, stepU acc x, k + 1, rfl, by go_num, by omega, by omega, Lib.hid ⟨HL3.out, HO3.out, HB3.out, HNX.out⟩⟩
                    case measure => simp [intOf]; omega
                  · have hn1 : 0 < n := by omega
                    obtain ⟨q, rfl⟩ : ∃ q, n = q + 1 := ⟨n - 1, by omega⟩
                    obtain ⟨LS, hLS⟩ : ∃ LS : ByteArray, (⟨(acc.getD q []).toArray⟩ : ByteArray) = LS := ⟨_, rfl⟩
                    have hLl : LS.data.toList = acc.getD q [] := by rw [← hLS]
                    have hLz : LS.size ≤ s.size := by have h1 := getD_flat acc q; have h2 := HFT.out; rw [← hLl, len_eq] at h1; omega
                    obtain ⟨g4, hoa, hgb4, hgz4, hc, hf⟩ := StrL.at (b := w1.heap.size) (w := wA) (oa := ob) (n := q + 1) (cap := cap2) (l := acc) (k := q) (by unfold StrL; rw [HR.out.1]; exact HR.out.2.1) (by rw [HR.out.1]; omega)
                    subst hoa
                    rw [hLS] at hc
                    have HST : Hid (stepU acc x = acc.set q (LS ++ Y.extract 1 Y.size).data.toList) := Lib.hid (by rw [stepU_join acc _ q HR.out.1 (by rw [HY.out]; exact HG.out), HY.out, ByteArray.data_append, Array.toList_append, hLl, ext_from, HYL.out])
                    have q0 : IntKind.i64.wrap (q : Int) = (q : Int) := IntWalk.i64_in _ (by omega)
                    have q1 : (0 : Int) ≤ (q : Int) := by omega
                    have q2 : (q : Int) < (q : Int) + 1 := by omega
                    have q3 : (1 : Int) ≤ (Y.size : Int) := by omega
                    have hEx : (Y.extract 1 Y.size).size ≤ s.size := by rw [ByteArray.size_extract]; omega
                    clear hLl hLS
                    go_wp2_with fail
                    go_region
                    have HO3 : Hid (StrL (wA.setCell ⟨g4, q, none⟩ (.string (LS ++ Y.extract 1 Y.size))).drew w1.heap.size (.slice (some ⟨g4, 0, none⟩) (q + 1) cap2) (stepU acc x)) := Lib.hid (by rw [HST.out]; exact StrL.set (w := wA) (by unfold StrL; rw [HR.out.1]; exact HR.out.2.1) q _)
                    have HB3 := Lib.hid (below_drew (HR.out.2.2.1.setCell (p := ⟨g4, q, none⟩) hgb4 (.string (LS ++ Y.extract 1 Y.size))))
                    have HL3 : Hid ((stepU acc x).length = q + 1) := Lib.hid (by rw [HST.out, List.length_set, HR.out.1])
                    clear hc hf
                    go_wp2_with fail
                    go_roundw
                    case rel => exact ⟨some ⟨g4, 0, none⟩, q + 1, cap2, stepU acc x, k + 1, rfl, by go_num, by omega, by omega, Lib.hid ⟨HL3.out, by have h := HO3.out; unfold StrL at h; rw [HL3.out] at h; exact h, HB3.out, HNX.out⟩⟩
                    case measure => simp [intOf]; omega
                · have hb9 : ((b.toNat : Int) == 9) = false := by simpa using fun h : (b.toNat : Int) = 9 => h9 (UInt8.toNat_inj.1 (by show b.toNat = 9; omega))
                  have HST := Lib.hid (stepU_app acc x (.inl (by rw [HY.out, HGE.out]; simp [h32, h9])))
                  clear h32 h9
                  go_wp2_with (at_builtin; refine wpList_append_own _ rfl (.tmp 73) (.tmp 75) 39 rfl w1.heap.size 9 i0 (.string ⟨#[]⟩) 1 16 Tryd.underlying39 hi0 hz0 hz1 hz2 rfl (by decide) _ n (strV acc) rfl (HR.out.2.1.alloc _) _ 1 1 [.string Y] rfl rfl (cells_at (by simp) _ _) (by simp [Value.oneCell']) (by unfold maxLen; omega) (by omega) (by have := HR.out.2.2.1.size; simp; omega) ?_; intro v3 w3 hown hgrow _)
                  obtain ⟨g3, c3, hv3, _, _⟩ := hown.form (by omega)
                  subst hv3
                  have HB3 := Lib.hid ((HR.out.2.2.1.alloc HR.out.2.2.1.size _).grown hgrow (by have := HR.out.2.2.1.size; simp; omega) (fun k hk => (HR.out.2.1.lt k hk).1))
                  have HO3 : Hid (w3.ownsRow w1.heap.size 9 1 (.slice (some ⟨g3, 0, none⟩) (n + 1) c3) (n + 1) (strV (stepU acc x))) := Lib.hid (by rw [HST.out, HY.out, strV_snoc, HYE.out]; exact hown)
                  have HL3 : Hid ((stepU acc x).length = n + 1) := Lib.hid (by rw [HST.out, List.length_append, HR.out.1]; rfl)
                  clear hown hgrow
                  go_wp2_with fail
                  go_roundw
                  case rel => exact ⟨some ⟨g3, 0, none⟩, n + 1, c3, stepU acc x, k + 1, rfl, by go_num, by omega, by omega, Lib.hid ⟨HL3.out, HO3.out, HB3.out, HNX.out⟩⟩
                  case measure => simp [intOf]; omega
          · have HY := Lib.hid (trimR_no x z hz hcr)
            have b13 : ((X[z].toNat : Int) == 13) = false := by
              rw [← gz]
              simpa using fun h : ((x.getD z 0).toNat : Int) = 13 => hcr (UInt8.toNat_inj.1 (by show (x.getD z 0).toNat = 13; omega))
            obtain ⟨y, hy⟩ : ∃ y, x = y := ⟨_, rfl⟩
            have HY : Hid (trimR x = y) := Lib.hid (by rw [HY.out, hy])
            obtain ⟨Y, rfl⟩ : ∃ Y, Y = X := ⟨X, rfl⟩
            have HYE : Hid ((⟨y.toArray⟩ : ByteArray) = Y) := Lib.hid (by rw [← hy]; exact HX.out)
            have HYL : Hid (Y.data.toList = y) := Lib.hid (by rw [hXl, hy])
            have hYs : Y.size = y.length := by rw [hXs, hy]
            have hYs2 : Y.size ≤ s.size := by omega
            clear hcr gz hy hXl hXs hz hx0 hxl
            by_cases hy0 : y = []
            · exact absurd hYs (by rw [hy0, hXz]; simp)
            · obtain ⟨b, y', rfl⟩ := List.exists_cons_of_ne_nil hy0
              have hYb := not_empty (r := Y) (by rw [HYL.out]; exact hy0)
              have hY0 : 0 < Y.size := by rw [hYs]; simp
              have g0 : Y[0] = b := by have h := getD_byte Y 0 hY0; rw [HYL.out] at h; exact h.symm
              have HGE := Lib.hid (goes_hit b y')
              clear hy0 hYs
              by_cases h32 : b = 32
              · have b1 : ((b.toNat : Int) == 32) = true := by rw [h32]; rfl
                have HG : Hid (goes (b :: y') = true) := Lib.hid (by rw [HGE.out, h32]; rfl)
                clear h32
                by_cases hn0 : n = 0
                · subst hn0
                  have HST := Lib.hid (stepU_app acc x (.inr (List.eq_nil_of_length_eq_zero HR.out.1)))
                  go_wp2_with (at_builtin; refine wpList_append_own _ rfl (.tmp 73) (.tmp 75) 39 rfl w1.heap.size 9 i0 (.string ⟨#[]⟩) 1 16 Tryd.underlying39 hi0 hz0 hz1 hz2 rfl (by decide) _ 0 (strV acc) rfl (HR.out.2.1.alloc _) _ 1 1 [.string Y] rfl rfl (cells_at (by simp) _ _) (by simp [Value.oneCell']) (by unfold maxLen; omega) (by omega) (by have := HR.out.2.2.1.size; simp; omega) ?_; intro v3 w3 hown hgrow _)
                  obtain ⟨g3, c3, hv3, _, _⟩ := hown.form (by omega)
                  subst hv3
                  have HB3 := Lib.hid ((HR.out.2.2.1.alloc HR.out.2.2.1.size _).grown hgrow (by have := HR.out.2.2.1.size; simp; omega) (fun k hk => (HR.out.2.1.lt k hk).1))
                  have HO3 : Hid (w3.ownsRow w1.heap.size 9 1 (.slice (some ⟨g3, 0, none⟩) (0 + 1) c3) (0 + 1) (strV (stepU acc x))) := Lib.hid (by rw [HST.out, HY.out, strV_snoc, HYE.out]; exact hown)
                  have HL3 : Hid ((stepU acc x).length = 0 + 1) := Lib.hid (by rw [HST.out, List.length_append, HR.out.1]; rfl)
                  clear hown hgrow
                  go_wp2_with fail
                  go_roundw
                  case rel => exact ⟨some ⟨g3, 0, none⟩, 0 + 1, c3, stepU acc x, k + 1, rfl, by go_num, by omega, by omega, Lib.hid ⟨HL3.out, HO3.out, HB3.out, HNX.out⟩⟩
                  case measure => simp [intOf]; omega
                · have hn1 : 0 < n := by omega
                  obtain ⟨q, rfl⟩ : ∃ q, n = q + 1 := ⟨n - 1, by omega⟩
                  obtain ⟨LS, hLS⟩ : ∃ LS : ByteArray, (⟨(acc.getD q []).toArray⟩ : ByteArray) = LS := ⟨_, rfl⟩
                  have hLl : LS.data.toList = acc.getD q [] := by rw [← hLS]
                  have hLz : LS.size ≤ s.size := by have h1 := getD_flat acc q; have h2 := HFT.out; rw [← hLl, len_eq] at h1; omega
                  obtain ⟨g4, hoa, hgb4, hgz4, hc, hf⟩ := StrL.at (b := w1.heap.size) (w := wA) (oa := ob) (n := q + 1) (cap := cap2) (l := acc) (k := q) (by unfold StrL; rw [HR.out.1]; exact HR.out.2.1) (by rw [HR.out.1]; omega)
                  subst hoa
                  rw [hLS] at hc
                  have HST : Hid (stepU acc x = acc.set q (LS ++ Y.extract 1 (z + 1)).data.toList) := Lib.hid (by rw [← hXz, stepU_join acc _ q HR.out.1 (by rw [HY.out]; exact HG.out), HY.out, ByteArray.data_append, Array.toList_append, hLl, ext_from, HYL.out])
                  have q0 : IntKind.i64.wrap (q : Int) = (q : Int) := IntWalk.i64_in _ (by omega)
                  have q1 : (0 : Int) ≤ (q : Int) := by omega
                  have q2 : (q : Int) < (q : Int) + 1 := by omega
                  have q3 : (1 : Int) ≤ (Y.size : Int) := by omega
                  have hEx : (Y.extract 1 Y.size).size ≤ s.size := by rw [ByteArray.size_extract]; omega
                  clear hLl hLS
                  go_wp2_with fail
                  go_region
                  have HO3 : Hid (StrL (wA.setCell ⟨g4, q, none⟩ (.string (LS ++ Y.extract 1 (z + 1)))).drew w1.heap.size (.slice (some ⟨g4, 0, none⟩) (q + 1) cap2) (stepU acc x)) := Lib.hid (by rw [HST.out]; exact StrL.set (w := wA) (by unfold StrL; rw [HR.out.1]; exact HR.out.2.1) q _)
                  have HB3 := Lib.hid (below_drew (HR.out.2.2.1.setCell (p := ⟨g4, q, none⟩) hgb4 (.string (LS ++ Y.extract 1 (z + 1)))))
                  have HL3 : Hid ((stepU acc x).length = q + 1) := Lib.hid (by rw [HST.out, List.length_set, HR.out.1])
                  clear hc hf
                  go_wp2_with fail
                  go_roundw
                  case rel => exact ⟨some ⟨g4, 0, none⟩, q + 1, cap2, stepU acc x, k + 1, rfl, by go_num, by omega, by omega, Lib.hid ⟨HL3.out, by have h := HO3.out; unfold StrL at h; rw [HL3.out] at h; exact h, HB3.out, HNX.out⟩⟩
                  case measure => simp [intOf]; omega
              · have hb32 : ((b.toNat : Int) == 32) = false := by simpa using fun h : (b.toNat : Int) = 32 => h32 (UInt8.toNat_inj.1 (by show b.toNat = 32; omega))
                by_cases h9 : b = 9
                · have b1 : ((b.toNat : Int) == 9) = true := by rw [h9]; rfl
                  have b0 : ((b.toNat : Int) == 32) = false := by rw [h9]; rfl
                  have HG : Hid (goes (b :: y') = true) := Lib.hid (by rw [HGE.out, h9]; rfl)
                  clear h9
                  by_cases hn0 : n = 0
                  · subst hn0
                    have HST := Lib.hid (stepU_app acc x (.inr (List.eq_nil_of_length_eq_zero HR.out.1)))
                    go_wp2_with (at_builtin; refine wpList_append_own _ rfl (.tmp 73) (.tmp 75) 39 rfl w1.heap.size 9 i0 (.string ⟨#[]⟩) 1 16 Tryd.underlying39 hi0 hz0 hz1 hz2 rfl (by decide) _ 0 (strV acc) rfl (HR.out.2.1.alloc _) _ 1 1 [.string Y] rfl rfl (cells_at (by simp) _ _) (by simp [Value.oneCell']) (by unfold maxLen; omega) (by omega) (by have := HR.out.2.2.1.size; simp; omega) ?_; intro v3 w3 hown hgrow _)
                    obtain ⟨g3, c3, hv3, _, _⟩ := hown.form (by omega)
                    subst hv3
                    have HB3 := Lib.hid ((HR.out.2.2.1.alloc HR.out.2.2.1.size _).grown hgrow (by have := HR.out.2.2.1.size; simp; omega) (fun k hk => (HR.out.2.1.lt k hk).1))
                    have HO3 : Hid (w3.ownsRow w1.heap.size 9 1 (.slice (some ⟨g3, 0, none⟩) (0 + 1) c3) (0 + 1) (strV (stepU acc x))) := Lib.hid (by rw [HST.out, HY.out, strV_snoc, HYE.out]; exact hown)
                    have HL3 : Hid ((stepU acc x).length = 0 + 1) := Lib.hid (by rw [HST.out, List.length_append, HR.out.1]; rfl)
                    clear hown hgrow
                    go_wp2_with fail
                    go_roundw
                    case rel => exact ⟨some ⟨g3, 0, none⟩, 0 + 1, c3, stepU acc x, k + 1, rfl, by go_num, by omega, by omega, Lib.hid ⟨HL3.out, HO3.out, HB3.out, HNX.out⟩⟩
                    case measure => simp [intOf]; omega
                  · have hn1 : 0 < n := by omega
                    obtain ⟨q, rfl⟩ : ∃ q, n = q + 1 := ⟨n - 1, by omega⟩
                    obtain ⟨LS, hLS⟩ : ∃ LS : ByteArray, (⟨(acc.getD q []).toArray⟩ : ByteArray) = LS := ⟨_, rfl⟩
                    have hLl : LS.data.toList = acc.getD q [] := by rw [← hLS]
                    have hLz : LS.size ≤ s.size := by have h1 := getD_flat acc q; have h2 := HFT.out; rw [← hLl, len_eq] at h1; omega
                    obtain ⟨g4, hoa, hgb4, hgz4, hc, hf⟩ := StrL.at (b := w1.heap.size) (w := wA) (oa := ob) (n := q + 1) (cap := cap2) (l := acc) (k := q) (by unfold StrL; rw [HR.out.1]; exact HR.out.2.1) (by rw [HR.out.1]; omega)
                    subst hoa
                    rw [hLS] at hc
                    have HST : Hid (stepU acc x = acc.set q (LS ++ Y.extract 1 (z + 1)).data.toList) := Lib.hid (by rw [← hXz, stepU_join acc _ q HR.out.1 (by rw [HY.out]; exact HG.out), HY.out, ByteArray.data_append, Array.toList_append, hLl, ext_from, HYL.out])
                    have q0 : IntKind.i64.wrap (q : Int) = (q : Int) := IntWalk.i64_in _ (by omega)
                    have q1 : (0 : Int) ≤ (q : Int) := by omega
                    have q2 : (q : Int) < (q : Int) + 1 := by omega
                    have q3 : (1 : Int) ≤ (Y.size : Int) := by omega
                    have hEx : (Y.extract 1 Y.size).size ≤ s.size := by rw [ByteArray.size_extract]; omega
                    clear hLl hLS
                    go_wp2_with fail
                    go_region
                    have HO3 : Hid (StrL (wA.setCell ⟨g4, q, none⟩ (.string (LS ++ Y.extract 1 (z + 1)))).drew w1.heap.size (.slice (some ⟨g4, 0, none⟩) (q + 1) cap2) (stepU acc x)) := Lib.hid (by rw [HST.out]; exact StrL.set (w := wA) (by unfold StrL; rw [HR.out.1]; exact HR.out.2.1) q _)
                    have HB3 := Lib.hid (below_drew (HR.out.2.2.1.setCell (p := ⟨g4, q, none⟩) hgb4 (.string (LS ++ Y.extract 1 (z + 1)))))
                    have HL3 : Hid ((stepU acc x).length = q + 1) := Lib.hid (by rw [HST.out, List.length_set, HR.out.1])
                    clear hc hf
                    go_wp2_with fail
                    go_roundw
                    case rel => exact ⟨some ⟨g4, 0, none⟩, q + 1, cap2, stepU acc x, k + 1, rfl, by go_num, by omega, by omega, Lib.hid ⟨HL3.out, by have h := HO3.out; unfold StrL at h; rw [HL3.out] at h; exact h, HB3.out, HNX.out⟩⟩
                    case measure => simp [intOf]; omega
                · have hb9 : ((b.toNat : Int) == 9) = false := by simpa using fun h : (b.toNat : Int) = 9 => h9 (UInt8.toNat_inj.1 (by show b.toNat = 9; omega))
                  have HST := Lib.hid (stepU_app acc x (.inl (by rw [HY.out, HGE.out]; simp [h32, h9])))
                  clear h32 h9
                  go_wp2_with (at_builtin; refine wpList_append_own _ rfl (.tmp 73) (.tmp 75) 39 rfl w1.heap.size 9 i0 (.string ⟨#[]⟩) 1 16 Tryd.underlying39 hi0 hz0 hz1 hz2 rfl (by decide) _ n (strV acc) rfl (HR.out.2.1.alloc _) _ 1 1 [.string Y] rfl rfl (cells_at (by simp) _ _) (by simp [Value.oneCell']) (by unfold maxLen; omega) (by omega) (by have := HR.out.2.2.1.size; simp; omega) ?_; intro v3 w3 hown hgrow _)
                  obtain ⟨g3, c3, hv3, _, _⟩ := hown.form (by omega)
                  subst hv3
                  have HB3 := Lib.hid ((HR.out.2.2.1.alloc HR.out.2.2.1.size _).grown hgrow (by have := HR.out.2.2.1.size; simp; omega) (fun k hk => (HR.out.2.1.lt k hk).1))
                  have HO3 : Hid (w3.ownsRow w1.heap.size 9 1 (.slice (some ⟨g3, 0, none⟩) (n + 1) c3) (n + 1) (strV (stepU acc x))) := Lib.hid (by rw [HST.out, HY.out, strV_snoc, HYE.out]; exact hown)
                  have HL3 : Hid ((stepU acc x).length = n + 1) := Lib.hid (by rw [HST.out, List.length_append, HR.out.1]; rfl)
                  clear hown hgrow
                  go_wp2_with fail
                  go_roundw
                  case rel => exact ⟨some ⟨g3, 0, none⟩, n + 1, c3, stepU acc x, k + 1, rfl, by go_num, by omega, by omega, Lib.hid ⟨HL3.out, HO3.out, HB3.out, HNX.out⟩⟩
                  case measure => simp [intOf]; omega
      · have hkE : k = m := by omega
        have e : acc = unfL s.data.toList := by have h := HR.out.2.2.2; rw [List.take_of_length_le (by rw [HLN.out, hkE]; exact Nat.le_refl _), HUN.out] at h; exact h
        have HEQ := Lib.hid e
        clear e
        subst hkE
        go_wp2_with fail
        go_ret
        exact ⟨_, rfl, (show StrL _ w1.heap.size _ _ by rw [← HEQ.out]; unfold StrL; rw [HR.out.1]; exact HR.out.2.1).low HB1.out.size, HB1.out.trans (HR.out.2.2.1.mono HB1.out.size)⟩
  · rw [if_neg hE0] at hLN
    have HLN := Lib.hid hLN
    have hEe := not_empty hE0
    clear hLN hE0
    go_enter Tryd.func25, Tryd.ntmps25
    go_wp2_with (go_at_call 41; refine C1.out.mono ?_; rintro e w1 ⟨v1, rfl, h1, hb1⟩; obtain ⟨oa, cap, hv1⟩ := h1.form; rw [HM.out] at hv1; subst hv1; have hmc := (slice_cap h1); obtain ⟨g, hoa, hgb, hgz, hcE, -⟩ := h1.at (show m < _ by rw [HM.out]; omega); subst hoa; rw [HE.out] at hcE; have H1 := Lib.hid h1; have HB1 := Lib.hid hb1; clear h1 hb1)
    go_loopw [4, 23] (fun v c wr => ∃ (ob : Option Addr) (n cap2 : Nat) (acc : List (List UInt8)) (k : Nat), v = .slice ob n cap2 ∧ c = .int .i64 (k : Int) ∧ k ≤ (m + 1) ∧ n ≤ k ∧ Hid (acc.length = n ∧ wr.ownsRow w1.heap.size 9 1 (.slice ob n cap2) n (strV acc) ∧ Below w1.heap.size w1 wr ∧ acc = (L.take k).foldl stepU [])) (fun _ c _ => (m + 1) - (intOf c).toNat)
    case atStart => exact ⟨none, 0, 0, [], 0, rfl, rfl, by omega, by omega, Lib.hid ⟨rfl, World.ownsRow_nil _ _ _ _, Below.refl _ _, rfl⟩⟩
    case round =>
      obtain ⟨ob, n, cap2, acc, k, rfl, rfl, hk, hn, HR⟩ := hrel
      obtain ⟨wA, rfl⟩ : ∃ wo : World, wo = wr := ⟨_, rfl⟩
      by_cases hkM : k < (m + 1)
      · obtain ⟨_, e0, _, _, hcx, _⟩ := (H1.out.call HR.out.2.2.1).at (k := k) (by rw [HM.out]; omega)
        cases e0
        have hkL : k < L.length := by rw [HLN.out]; exact hkM
        obtain ⟨x, hx⟩ : ∃ x, L.getD k [] = x := ⟨_, rfl⟩
        rw [← HAT.out k hkL, hx] at hcx
        have hxl : x.length ≤ s.size := by have h1 := getD_flat L k; have h2 := HFL.out.1; rw [hx] at h1; rw [len_eq] at h2; omega
        have HNX : Hid (stepU acc x = (L.take (k + 1)).foldl stepU []) := Lib.hid (by rw [foldl_snoc L k hkL, hx, ← HR.out.2.2.2])
        have HFT : Hid (acc.flatten.length ≤ s.size) := Lib.hid (by have h1 := (foldl_flat (L.take k) []).1; rw [← HR.out.2.2.2] at h1; have h2 := take_flat L k; have h3 := HFL.out.1; rw [len_eq] at h3; have h4 : ([] : List (List UInt8)).flatten.length = 0 := rfl; omega)
        obtain ⟨X, hX⟩ : ∃ X : ByteArray, (⟨x.toArray⟩ : ByteArray) = X := ⟨_, rfl⟩
        have hXl : X.data.toList = x := by rw [← hX]
        have hXs : X.size = x.length := by rw [← len_eq, hXl]
        rw [hX] at hcx
        have j1 : (0 : Int) ≤ (k : Int) := by omega
        have HX := Lib.hid hX
        clear hx hX hkL
        by_cases hx0 : x = []
        · subst hx0
          have hX0 : X.toList.isEmpty = true := by rw [ByteArray.toList_eq, hXl]; rfl
          have HY : Hid (trimR [] = []) := Lib.hid rfl
          have HST := Lib.hid (stepU_app acc [] (.inl (by rw [HY.out]; rfl)))
          have HYE := HX
          clear hXl hXs
          go_wp2_with (at_builtin; refine wpList_append_own _ rfl (.tmp 73) (.tmp 75) 39 rfl w1.heap.size 9 i0 (.string ⟨#[]⟩) 1 16 Tryd.underlying39 hi0 hz0 hz1 hz2 rfl (by decide) _ n (strV acc) rfl (HR.out.2.1.alloc _) _ 1 1 [.string X] rfl rfl (cells_at (by simp) _ _) (by simp [Value.oneCell']) (by unfold maxLen; omega) (by omega) (by have := HR.out.2.2.1.size; simp; omega) ?_; intro v3 w3 hown hgrow _)
          obtain ⟨g3, c3, hv3, _, _⟩ := hown.form (by omega)
          subst hv3
          have HB3 := Lib.hid ((HR.out.2.2.1.alloc HR.out.2.2.1.size _).grown hgrow (by have := HR.out.2.2.1.size; simp; omega) (fun k hk => (HR.out.2.1.lt k hk).1))
          have HO3 : Hid (w3.ownsRow w1.heap.size 9 1 (.slice (some ⟨g3, 0, none⟩) (n + 1) c3) (n + 1) (strV (stepU acc []))) := Lib.hid (by rw [HST.out, HY.out, strV_snoc, HYE.out]; exact hown)
          have HL3 : Hid ((stepU acc []).length = n + 1) := Lib.hid (by rw [HST.out, List.length_append, HR.out.1]; rfl)
          clear hown hgrow
          go_wp2_with fail
          go_roundw
          case rel => exact ⟨some ⟨g3, 0, none⟩, n + 1, c3, stepU acc [], k + 1, rfl, by go_num, by omega, by omega, Lib.hid ⟨HL3.out, HO3.out, HB3.out, HNX.out⟩⟩
          case measure => simp [intOf]; omega
        · obtain ⟨z, hz⟩ : ∃ z, x.length = z + 1 := ⟨x.length - 1, by have := List.length_pos_iff.2 hx0; omega⟩
          have hX0 := not_empty (r := X) (by rw [hXl]; exact hx0)
          have hXz : X.size = z + 1 := by omega
          have hzX : z < X.size := by omega
          have gz := getD_byte X z hzX
          rw [hXl] at gz
          have hzs : z + 1 ≤ s.size := by omega
          by_cases hcr : x.getD z 0 = 13
          · have HY := Lib.hid (trimR_cr x z hz hcr)
            have b13 : ((X[z].toNat : Int) == 13) = true := by rw [← gz, hcr]; rfl
            obtain ⟨y, hy⟩ : ∃ y, x.take z = y := ⟨_, rfl⟩
            rw [hy] at HY
            obtain ⟨Y, hXY⟩ : ∃ Y, X.extract 0 z = Y := ⟨_, rfl⟩
            have hYl : Y.data.toList = y := by rw [← hXY, ext_to, hXl]; exact hy
            have HYE : Hid ((⟨y.toArray⟩ : ByteArray) = Y) := Lib.hid (by rw [← hYl])
            have hYs : Y.size = y.length := by rw [← len_eq, hYl]
            have hYs2 : Y.size ≤ s.size := by rw [← hXY, ByteArray.size_extract]; omega
            have HYL := Lib.hid hYl
            clear hcr gz hy hYl hXl hXs hz hx0 hxl
            by_cases hy0 : y = []
            · have HST := Lib.hid (stepU_app acc x (.inl (by rw [HY.out, hy0]; rfl)))
              have hYb : Y.toList.isEmpty = true := by rw [ByteArray.toList_eq, HYL.out, hy0]; rfl
              clear hy0 hYs
              go_wp2_with (at_builtin; refine wpList_append_own _ rfl (.tmp 73) (.tmp 75) 39 rfl w1.heap.size 9 i0 (.string ⟨#[]⟩) 1 16 Tryd.underlying39 hi0 hz0 hz1 hz2 rfl (by decide) _ n (strV acc) rfl (HR.out.2.1.alloc _) _ 1 1 [.string Y] rfl rfl (cells_at (by simp) _ _) (by simp [Value.oneCell']) (by unfold maxLen; omega) (by omega) (by have := HR.out.2.2.1.size; simp; omega) ?_; intro v3 w3 hown hgrow _)
              obtain ⟨g3, c3, hv3, _, _⟩ := hown.form (by omega)
              subst hv3
              have HB3 := Lib.hid ((HR.out.2.2.1.alloc HR.out.2.2.1.size _).grown hgrow (by have := HR.out.2.2.1.size; simp; omega) (fun k hk => (HR.out.2.1.lt k hk).1))
              have HO3 : Hid (w3.ownsRow w1.heap.size 9 1 (.slice (some ⟨g3, 0, none⟩) (n + 1) c3) (n + 1) (strV (stepU acc x))) := Lib.hid (by rw [HST.out, HY.out, strV_snoc, HYE.out]; exact hown)
              have HL3 : Hid ((stepU acc x).length = n + 1) := Lib.hid (by rw [HST.out, List.length_append, HR.out.1]; rfl)
              clear hown hgrow
              go_wp2_with fail
              go_roundw
              case rel => exact ⟨some ⟨g3, 0, none⟩, n + 1, c3, stepU acc x, k + 1, rfl, by go_num, by omega, by omega, Lib.hid ⟨HL3.out, HO3.out, HB3.out, HNX.out⟩⟩
              case measure => simp [intOf]; omega
            · obtain ⟨b, y', rfl⟩ := List.exists_cons_of_ne_nil hy0
              have hYb := not_empty (r := Y) (by rw [HYL.out]; exact hy0)
              have hY0 : 0 < Y.size := by rw [hYs]; simp
              have g0 : Y[0] = b := by have h := getD_byte Y 0 hY0; rw [HYL.out] at h; exact h.symm
              have HGE := Lib.hid (goes_hit b y')
              clear hy0 hYs
              by_cases h32 : b = 32
              · have b1 : ((b.toNat : Int) == 32) = true := by rw [h32]; rfl
                have HG : Hid (goes (b :: y') = true) := Lib.hid (by rw [HGE.out, h32]; rfl)
                clear h32
                by_cases hn0 : n = 0
                · subst hn0
                  have HST := Lib.hid (stepU_app acc x (.inr (List.eq_nil_of_length_eq_zero HR.out.1)))
                  go_wp2_with (at_builtin; refine wpList_append_own _ rfl (.tmp 73) (.tmp 75) 39 rfl w1.heap.size 9 i0 (.string ⟨#[]⟩) 1 16 Tryd.underlying39 hi0 hz0 hz1 hz2 rfl (by decide) _ 0 (strV acc) rfl (HR.out.2.1.alloc _) _ 1 1 [.string Y] rfl rfl (cells_at (by simp) _ _) (by simp [Value.oneCell']) (by unfold maxLen; omega) (by omega) (by have := HR.out.2.2.1.size; simp; omega) ?_; intro v3 w3 hown hgrow _)
                  obtain ⟨g3, c3, hv3, _, _⟩ := hown.form (by omega)
                  subst hv3
                  have HB3 := Lib.hid ((HR.out.2.2.1.alloc HR.out.2.2.1.size _).grown hgrow (by have := HR.out.2.2.1.size; simp; omega) (fun k hk => (HR.out.2.1.lt k hk).1))
                  have HO3 : Hid (w3.ownsRow w1.heap.size 9 1 (.slice (some ⟨g3, 0, none⟩) (0 + 1) c3) (0 + 1) (strV (stepU acc x))) := Lib.hid (by rw [HST.out, HY.out, strV_snoc, HYE.out]; exact hown)
                  have HL3 : Hid ((stepU acc x).length = 0 + 1) := Lib.hid (by rw [HST.out, List.length_append, HR.out.1]; rfl)
                  clear hown hgrow
                  go_wp2_with fail
                  go_roundw
                  case rel => exact ⟨some ⟨g3, 0, none⟩, 0 + 1, c3, stepU acc x, k + 1, rfl, by go_num, by omega, by omega, Lib.hid ⟨HL3.out, HO3.out, HB3.out, HNX.out⟩⟩
                  case measure => simp [intOf]; omega
                · have hn1 : 0 < n := by omega
                  obtain ⟨q, rfl⟩ : ∃ q, n = q + 1 := ⟨n - 1, by omega⟩
                  obtain ⟨LS, hLS⟩ : ∃ LS : ByteArray, (⟨(acc.getD q []).toArray⟩ : ByteArray) = LS := ⟨_, rfl⟩
                  have hLl : LS.data.toList = acc.getD q [] := by rw [← hLS]
                  have hLz : LS.size ≤ s.size := by have h1 := getD_flat acc q; have h2 := HFT.out; rw [← hLl, len_eq] at h1; omega
                  obtain ⟨g4, hoa, hgb4, hgz4, hc, hf⟩ := StrL.at (b := w1.heap.size) (w := wA) (oa := ob) (n := q + 1) (cap := cap2) (l := acc) (k := q) (by unfold StrL; rw [HR.out.1]; exact HR.out.2.1) (by rw [HR.out.1]; omega)
                  subst hoa
                  rw [hLS] at hc
                  have HST : Hid (stepU acc x = acc.set q (LS ++ Y.extract 1 Y.size).data.toList) := Lib.hid (by rw [stepU_join acc _ q HR.out.1 (by rw [HY.out]; exact HG.out), HY.out, ByteArray.data_append, Array.toList_append, hLl, ext_from, HYL.out])
                  have q0 : IntKind.i64.wrap (q : Int) = (q : Int) := IntWalk.i64_in _ (by omega)
                  have q1 : (0 : Int) ≤ (q : Int) := by omega
                  have q2 : (q : Int) < (q : Int) + 1 := by omega
                  have q3 : (1 : Int) ≤ (Y.size : Int) := by omega
                  have hEx : (Y.extract 1 Y.size).size ≤ s.size := by rw [ByteArray.size_extract]; omega
                  clear hLl hLS
                  go_wp2_with fail
                  go_region
                  have HO3 : Hid (StrL (wA.setCell ⟨g4, q, none⟩ (.string (LS ++ Y.extract 1 Y.size))).drew w1.heap.size (.slice (some ⟨g4, 0, none⟩) (q + 1) cap2) (stepU acc x)) := Lib.hid (by rw [HST.out]; exact StrL.set (w := wA) (by unfold StrL; rw [HR.out.1]; exact HR.out.2.1) q _)
                  have HB3 := Lib.hid (below_drew (HR.out.2.2.1.setCell (p := ⟨g4, q, none⟩) hgb4 (.string (LS ++ Y.extract 1 Y.size))))
                  have HL3 : Hid ((stepU acc x).length = q + 1) := Lib.hid (by rw [HST.out, List.length_set, HR.out.1])
                  clear hc hf
                  go_wp2_with fail
                  go_roundw
                  case rel => exact ⟨some ⟨g4, 0, none⟩, q + 1, cap2, stepU acc x, k + 1, rfl, by go_num, by omega, by omega, Lib.hid ⟨HL3.out, by have h := HO3.out; unfold StrL at h; rw [HL3.out] at h; exact h, HB3.out, HNX.out⟩⟩
                  case measure => simp [intOf]; omega
              · have hb32 : ((b.toNat : Int) == 32) = false := by simpa using fun h : (b.toNat : Int) = 32 => h32 (UInt8.toNat_inj.1 (by show b.toNat = 32; omega))
                by_cases h9 : b = 9
                · have b1 : ((b.toNat : Int) == 9) = true := by rw [h9]; rfl
                  have b0 : ((b.toNat : Int) == 32) = false := by rw [h9]; rfl
                  have HG : Hid (goes (b :: y') = true) := Lib.hid (by rw [HGE.out, h9]; rfl)
                  clear h9
                  by_cases hn0 : n = 0
                  · subst hn0
                    have HST := Lib.hid (stepU_app acc x (.inr (List.eq_nil_of_length_eq_zero HR.out.1)))
                    go_wp2_with (at_builtin; refine wpList_append_own _ rfl (.tmp 73) (.tmp 75) 39 rfl w1.heap.size 9 i0 (.string ⟨#[]⟩) 1 16 Tryd.underlying39 hi0 hz0 hz1 hz2 rfl (by decide) _ 0 (strV acc) rfl (HR.out.2.1.alloc _) _ 1 1 [.string Y] rfl rfl (cells_at (by simp) _ _) (by simp [Value.oneCell']) (by unfold maxLen; omega) (by omega) (by have := HR.out.2.2.1.size; simp; omega) ?_; intro v3 w3 hown hgrow _)
                    obtain ⟨g3, c3, hv3, _, _⟩ := hown.form (by omega)
                    subst hv3
                    have HB3 := Lib.hid ((HR.out.2.2.1.alloc HR.out.2.2.1.size _).grown hgrow (by have := HR.out.2.2.1.size; simp; omega) (fun k hk => (HR.out.2.1.lt k hk).1))
                    have HO3 : Hid (w3.ownsRow w1.heap.size 9 1 (.slice (some ⟨g3, 0, none⟩) (0 + 1) c3) (0 + 1) (strV (stepU acc x))) := Lib.hid (by rw [HST.out, HY.out, strV_snoc, HYE.out]; exact hown)
                    have HL3 : Hid ((stepU acc x).length = 0 + 1) := Lib.hid (by rw [HST.out, List.length_append, HR.out.1]; rfl)
                    clear hown hgrow
                    go_wp2_with fail
                    go_roundw
                    case rel => exact ⟨some ⟨g3, 0, none⟩, 0 + 1, c3, stepU acc x, k + 1, rfl, by go_num, by omega, by omega, Lib.hid ⟨HL3.out, HO3.out, HB3.out, HNX.out⟩⟩
                    case measure => simp [intOf]; omega
                  · have hn1 : 0 < n := by omega
                    obtain ⟨q, rfl⟩ : ∃ q, n = q + 1 := ⟨n - 1, by omega⟩
                    obtain ⟨LS, hLS⟩ : ∃ LS : ByteArray, (⟨(acc.getD q []).toArray⟩ : ByteArray) = LS := ⟨_, rfl⟩
                    have hLl : LS.data.toList = acc.getD q [] := by rw [← hLS]
                    have hLz : LS.size ≤ s.size := by have h1 := getD_flat acc q; have h2 := HFT.out; rw [← hLl, len_eq] at h1; omega
                    obtain ⟨g4, hoa, hgb4, hgz4, hc, hf⟩ := StrL.at (b := w1.heap.size) (w := wA) (oa := ob) (n := q + 1) (cap := cap2) (l := acc) (k := q) (by unfold StrL; rw [HR.out.1]; exact HR.out.2.1) (by rw [HR.out.1]; omega)
                    subst hoa
                    rw [hLS] at hc
                    have HST : Hid (stepU acc x = acc.set q (LS ++ Y.extract 1 Y.size).data.toList) := Lib.hid (by rw [stepU_join acc _ q HR.out.1 (by rw [HY.out]; exact HG.out), HY.out, ByteArray.data_append, Array.toList_append, hLl, ext_from, HYL.out])
                    have q0 : IntKind.i64.wrap (q : Int) = (q : Int) := IntWalk.i64_in _ (by omega)
                    have q1 : (0 : Int) ≤ (q : Int) := by omega
                    have q2 : (q : Int) < (q : Int) + 1 := by omega
                    have q3 : (1 : Int) ≤ (Y.size : Int) := by omega
                    have hEx : (Y.extract 1 Y.size).size ≤ s.size := by rw [ByteArray.size_extract]; omega
                    clear hLl hLS
                    go_wp2_with fail
                    go_region
                    have HO3 : Hid (StrL (wA.setCell ⟨g4, q, none⟩ (.string (LS ++ Y.extract 1 Y.size))).drew w1.heap.size (.slice (some ⟨g4, 0, none⟩) (q + 1) cap2) (stepU acc x)) := Lib.hid (by rw [HST.out]; exact StrL.set (w := wA) (by unfold StrL; rw [HR.out.1]; exact HR.out.2.1) q _)
                    have HB3 := Lib.hid (below_drew (HR.out.2.2.1.setCell (p := ⟨g4, q, none⟩) hgb4 (.string (LS ++ Y.extract 1 Y.size))))
                    have HL3 : Hid ((stepU acc x).length = q + 1) := Lib.hid (by rw [HST.out, List.length_set, HR.out.1])
                    clear hc hf
                    go_wp2_with fail
                    go_roundw
                    case rel => exact ⟨some ⟨g4, 0, none⟩, q + 1, cap2, stepU acc x, k + 1, rfl, by go_num, by omega, by omega, Lib.hid ⟨HL3.out, by have h := HO3.out; unfold StrL at h; rw [HL3.out] at h; exact h, HB3.out, HNX.out⟩⟩
                    case measure => simp [intOf]; omega
                · have hb9 : ((b.toNat : Int) == 9) = false := by simpa using fun h : (b.toNat : Int) = 9 => h9 (UInt8.toNat_inj.1 (by show b.toNat = 9; omega))
                  have HST := Lib.hid (stepU_app acc x (.inl (by rw [HY.out, HGE.out]; simp [h32, h9])))
                  clear h32 h9
                  go_wp2_with (at_builtin; refine wpList_append_own _ rfl (.tmp 73) (.tmp 75) 39 rfl w1.heap.size 9 i0 (.string ⟨#[]⟩) 1 16 Tryd.underlying39 hi0 hz0 hz1 hz2 rfl (by decide) _ n (strV acc) rfl (HR.out.2.1.alloc _) _ 1 1 [.string Y] rfl rfl (cells_at (by simp) _ _) (by simp [Value.oneCell']) (by unfold maxLen; omega) (by omega) (by have := HR.out.2.2.1.size; simp; omega) ?_; intro v3 w3 hown hgrow _)
                  obtain ⟨g3, c3, hv3, _, _⟩ := hown.form (by omega)
                  subst hv3
                  have HB3 := Lib.hid ((HR.out.2.2.1.alloc HR.out.2.2.1.size _).grown hgrow (by have := HR.out.2.2.1.size; simp; omega) (fun k hk => (HR.out.2.1.lt k hk).1))
                  have HO3 : Hid (w3.ownsRow w1.heap.size 9 1 (.slice (some ⟨g3, 0, none⟩) (n + 1) c3) (n + 1) (strV (stepU acc x))) := Lib.hid (by rw [HST.out, HY.out, strV_snoc, HYE.out]; exact hown)
                  have HL3 : Hid ((stepU acc x).length = n + 1) := Lib.hid (by rw [HST.out, List.length_append, HR.out.1]; rfl)
                  clear hown hgrow
                  go_wp2_with fail
                  go_roundw
                  case rel => exact ⟨some ⟨g3, 0, none⟩, n + 1, c3, stepU acc x, k + 1, rfl, by go_num, by omega, by omega, Lib.hid ⟨HL3.out, HO3.out, HB3.out, HNX.out⟩⟩
                  case measure => simp [intOf]; omega
          · have HY := Lib.hid (trimR_no x z hz hcr)
            have b13 : ((X[z].toNat : Int) == 13) = false := by
              rw [← gz]
              simpa using fun h : ((x.getD z 0).toNat : Int) = 13 => hcr (UInt8.toNat_inj.1 (by show (x.getD z 0).toNat = 13; omega))
            obtain ⟨y, hy⟩ : ∃ y, x = y := ⟨_, rfl⟩
            have HY : Hid (trimR x = y) := Lib.hid (by rw [HY.out, hy])
            obtain ⟨Y, rfl⟩ : ∃ Y, Y = X := ⟨X, rfl⟩
            have HYE : Hid ((⟨y.toArray⟩ : ByteArray) = Y) := Lib.hid (by rw [← hy]; exact HX.out)
            have HYL : Hid (Y.data.toList = y) := Lib.hid (by rw [hXl, hy])
            have hYs : Y.size = y.length := by rw [hXs, hy]
            have hYs2 : Y.size ≤ s.size := by omega
            clear hcr gz hy hXl hXs hz hx0 hxl
            by_cases hy0 : y = []
            · exact absurd hYs (by rw [hy0, hXz]; simp)
            · obtain ⟨b, y', rfl⟩ := List.exists_cons_of_ne_nil hy0
              have hYb := not_empty (r := Y) (by rw [HYL.out]; exact hy0)
              have hY0 : 0 < Y.size := by rw [hYs]; simp
              have g0 : Y[0] = b := by have h := getD_byte Y 0 hY0; rw [HYL.out] at h; exact h.symm
              have HGE := Lib.hid (goes_hit b y')
              clear hy0 hYs
              by_cases h32 : b = 32
              · have b1 : ((b.toNat : Int) == 32) = true := by rw [h32]; rfl
                have HG : Hid (goes (b :: y') = true) := Lib.hid (by rw [HGE.out, h32]; rfl)
                clear h32
                by_cases hn0 : n = 0
                · subst hn0
                  have HST := Lib.hid (stepU_app acc x (.inr (List.eq_nil_of_length_eq_zero HR.out.1)))
                  go_wp2_with (at_builtin; refine wpList_append_own _ rfl (.tmp 73) (.tmp 75) 39 rfl w1.heap.size 9 i0 (.string ⟨#[]⟩) 1 16 Tryd.underlying39 hi0 hz0 hz1 hz2 rfl (by decide) _ 0 (strV acc) rfl (HR.out.2.1.alloc _) _ 1 1 [.string Y] rfl rfl (cells_at (by simp) _ _) (by simp [Value.oneCell']) (by unfold maxLen; omega) (by omega) (by have := HR.out.2.2.1.size; simp; omega) ?_; intro v3 w3 hown hgrow _)
                  obtain ⟨g3, c3, hv3, _, _⟩ := hown.form (by omega)
                  subst hv3
                  have HB3 := Lib.hid ((HR.out.2.2.1.alloc HR.out.2.2.1.size _).grown hgrow (by have := HR.out.2.2.1.size; simp; omega) (fun k hk => (HR.out.2.1.lt k hk).1))
                  have HO3 : Hid (w3.ownsRow w1.heap.size 9 1 (.slice (some ⟨g3, 0, none⟩) (0 + 1) c3) (0 + 1) (strV (stepU acc x))) := Lib.hid (by rw [HST.out, HY.out, strV_snoc, HYE.out]; exact hown)
                  have HL3 : Hid ((stepU acc x).length = 0 + 1) := Lib.hid (by rw [HST.out, List.length_append, HR.out.1]; rfl)
                  clear hown hgrow
                  go_wp2_with fail
                  go_roundw
                  case rel => exact ⟨some ⟨g3, 0, none⟩, 0 + 1, c3, stepU acc x, k + 1, rfl, by go_num, by omega, by omega, Lib.hid ⟨HL3.out, HO3.out, HB3.out, HNX.out⟩⟩
                  case measure => simp [intOf]; omega
                · have hn1 : 0 < n := by omega
                  obtain ⟨q, rfl⟩ : ∃ q, n = q + 1 := ⟨n - 1, by omega⟩
                  obtain ⟨LS, hLS⟩ : ∃ LS : ByteArray, (⟨(acc.getD q []).toArray⟩ : ByteArray) = LS := ⟨_, rfl⟩
                  have hLl : LS.data.toList = acc.getD q [] := by rw [← hLS]
                  have hLz : LS.size ≤ s.size := by have h1 := getD_flat acc q; have h2 := HFT.out; rw [← hLl, len_eq] at h1; omega
                  obtain ⟨g4, hoa, hgb4, hgz4, hc, hf⟩ := StrL.at (b := w1.heap.size) (w := wA) (oa := ob) (n := q + 1) (cap := cap2) (l := acc) (k := q) (by unfold StrL; rw [HR.out.1]; exact HR.out.2.1) (by rw [HR.out.1]; omega)
                  subst hoa
                  rw [hLS] at hc
                  have HST : Hid (stepU acc x = acc.set q (LS ++ Y.extract 1 (z + 1)).data.toList) := Lib.hid (by rw [← hXz, stepU_join acc _ q HR.out.1 (by rw [HY.out]; exact HG.out), HY.out, ByteArray.data_append, Array.toList_append, hLl, ext_from, HYL.out])
                  have q0 : IntKind.i64.wrap (q : Int) = (q : Int) := IntWalk.i64_in _ (by omega)
                  have q1 : (0 : Int) ≤ (q : Int) := by omega
                  have q2 : (q : Int) < (q : Int) + 1 := by omega
                  have q3 : (1 : Int) ≤ (Y.size : Int) := by omega
                  have hEx : (Y.extract 1 Y.size).size ≤ s.size := by rw [ByteArray.size_extract]; omega
                  clear hLl hLS
                  go_wp2_with fail
                  go_region
                  have HO3 : Hid (StrL (wA.setCell ⟨g4, q, none⟩ (.string (LS ++ Y.extract 1 (z + 1)))).drew w1.heap.size (.slice (some ⟨g4, 0, none⟩) (q + 1) cap2) (stepU acc x)) := Lib.hid (by rw [HST.out]; exact StrL.set (w := wA) (by unfold StrL; rw [HR.out.1]; exact HR.out.2.1) q _)
                  have HB3 := Lib.hid (below_drew (HR.out.2.2.1.setCell (p := ⟨g4, q, none⟩) hgb4 (.string (LS ++ Y.extract 1 (z + 1)))))
                  have HL3 : Hid ((stepU acc x).length = q + 1) := Lib.hid (by rw [HST.out, List.length_set, HR.out.1])
                  clear hc hf
                  go_wp2_with fail
                  go_roundw
                  case rel => exact ⟨some ⟨g4, 0, none⟩, q + 1, cap2, stepU acc x, k + 1, rfl, by go_num, by omega, by omega, Lib.hid ⟨HL3.out, by have h := HO3.out; unfold StrL at h; rw [HL3.out] at h; exact h, HB3.out, HNX.out⟩⟩
                  case measure => simp [intOf]; omega
              · have hb32 : ((b.toNat : Int) == 32) = false := by simpa using fun h : (b.toNat : Int) = 32 => h32 (UInt8.toNat_inj.1 (by show b.toNat = 32; omega))
                by_cases h9 : b = 9
                · have b1 : ((b.toNat : Int) == 9) = true := by rw [h9]; rfl
                  have b0 : ((b.toNat : Int) == 32) = false := by rw [h9]; rfl
                  have HG : Hid (goes (b :: y') = true) := Lib.hid (by rw [HGE.out, h9]; rfl)
                  clear h9
                  by_cases hn0 : n = 0
                  · subst hn0
                    have HST := Lib.hid (stepU_app acc x (.inr (List.eq_nil_of_length_eq_zero HR.out.1)))
                    go_wp2_with (at_builtin; refine wpList_append_own _ rfl (.tmp 73) (.tmp 75) 39 rfl w1.heap.size 9 i0 (.string ⟨#[]⟩) 1 16 Tryd.underlying39 hi0 hz0 hz1 hz2 rfl (by decide) _ 0 (strV acc) rfl (HR.out.2.1.alloc _) _ 1 1 [.string Y] rfl rfl (cells_at (by simp) _ _) (by simp [Value.oneCell']) (by unfold maxLen; omega) (by omega) (by have := HR.out.2.2.1.size; simp; omega) ?_; intro v3 w3 hown hgrow _)
                    obtain ⟨g3, c3, hv3, _, _⟩ := hown.form (by omega)
                    subst hv3
                    have HB3 := Lib.hid ((HR.out.2.2.1.alloc HR.out.2.2.1.size _).grown hgrow (by have := HR.out.2.2.1.size; simp; omega) (fun k hk => (HR.out.2.1.lt k hk).1))
                    have HO3 : Hid (w3.ownsRow w1.heap.size 9 1 (.slice (some ⟨g3, 0, none⟩) (0 + 1) c3) (0 + 1) (strV (stepU acc x))) := Lib.hid (by rw [HST.out, HY.out, strV_snoc, HYE.out]; exact hown)
                    have HL3 : Hid ((stepU acc x).length = 0 + 1) := Lib.hid (by rw [HST.out, List.length_append, HR.out.1]; rfl)
                    clear hown hgrow
                    go_wp2_with fail
                    go_roundw
                    case rel => exact ⟨some ⟨g3, 0, none⟩, 0 + 1, c3, stepU acc x, k + 1, rfl, by go_num, by omega, by omega, Lib.hid ⟨HL3.out, HO3.out, HB3.out, HNX.out⟩⟩
                    case measure => simp [intOf]; omega
                  · have hn1 : 0 < n := by omega
                    obtain ⟨q, rfl⟩ : ∃ q, n = q + 1 := ⟨n - 1, by omega⟩
                    obtain ⟨LS, hLS⟩ : ∃ LS : ByteArray, (⟨(acc.getD q []).toArray⟩ : ByteArray) = LS := ⟨_, rfl⟩
                    have hLl : LS.data.toList = acc.getD q [] := by rw [← hLS]
                    have hLz : LS.size ≤ s.size := by have h1 := getD_flat acc q; have h2 := HFT.out; rw [← hLl, len_eq] at h1; omega
                    obtain ⟨g4, hoa, hgb4, hgz4, hc, hf⟩ := StrL.at (b := w1.heap.size) (w := wA) (oa := ob) (n := q + 1) (cap := cap2) (l := acc) (k := q) (by unfold StrL; rw [HR.out.1]; exact HR.out.2.1) (by rw [HR.out.1]; omega)
                    subst hoa
                    rw [hLS] at hc
                    have HST : Hid (stepU acc x = acc.set q (LS ++ Y.extract 1 (z + 1)).data.toList) := Lib.hid (by rw [← hXz, stepU_join acc _ q HR.out.1 (by rw [HY.out]; exact HG.out), HY.out, ByteArray.data_append, Array.toList_append, hLl, ext_from, HYL.out])
                    have q0 : IntKind.i64.wrap (q : Int) = (q : Int) := IntWalk.i64_in _ (by omega)
                    have q1 : (0 : Int) ≤ (q : Int) := by omega
                    have q2 : (q : Int) < (q : Int) + 1 := by omega
                    have q3 : (1 : Int) ≤ (Y.size : Int) := by omega
                    have hEx : (Y.extract 1 Y.size).size ≤ s.size := by rw [ByteArray.size_extract]; omega
                    clear hLl hLS
                    go_wp2_with fail
                    go_region
                    have HO3 : Hid (StrL (wA.setCell ⟨g4, q, none⟩ (.string (LS ++ Y.extract 1 (z + 1)))).drew w1.heap.size (.slice (some ⟨g4, 0, none⟩) (q + 1) cap2) (stepU acc x)) := Lib.hid (by rw [HST.out]; exact StrL.set (w := wA) (by unfold StrL; rw [HR.out.1]; exact HR.out.2.1) q _)
                    have HB3 := Lib.hid (below_drew (HR.out.2.2.1.setCell (p := ⟨g4, q, none⟩) hgb4 (.string (LS ++ Y.extract 1 (z + 1)))))
                    have HL3 : Hid ((stepU acc x).length = q + 1) := Lib.hid (by rw [HST.out, List.length_set, HR.out.1])
                    clear hc hf
                    go_wp2_with fail
                    go_roundw
                    case rel => exact ⟨some ⟨g4, 0, none⟩, q + 1, cap2, stepU acc x, k + 1, rfl, by go_num, by omega, by omega, Lib.hid ⟨HL3.out, by have h := HO3.out; unfold StrL at h; rw [HL3.out] at h; exact h, HB3.out, HNX.out⟩⟩
                    case measure => simp [intOf]; omega
                · have hb9 : ((b.toNat : Int) == 9) = false := by simpa using fun h : (b.toNat : Int) = 9 => h9 (UInt8.toNat_inj.1 (by show b.toNat = 9; omega))
                  have HST := Lib.hid (stepU_app acc x (.inl (by rw [HY.out, HGE.out]; simp [h32, h9])))
                  clear h32 h9
                  go_wp2_with (at_builtin; refine wpList_append_own _ rfl (.tmp 73) (.tmp 75) 39 rfl w1.heap.size 9 i0 (.string ⟨#[]⟩) 1 16 Tryd.underlying39 hi0 hz0 hz1 hz2 rfl (by decide) _ n (strV acc) rfl (HR.out.2.1.alloc _) _ 1 1 [.string Y] rfl rfl (cells_at (by simp) _ _) (by simp [Value.oneCell']) (by unfold maxLen; omega) (by omega) (by have := HR.out.2.2.1.size; simp; omega) ?_; intro v3 w3 hown hgrow _)
                  obtain ⟨g3, c3, hv3, _, _⟩ := hown.form (by omega)
                  subst hv3
                  have HB3 := Lib.hid ((HR.out.2.2.1.alloc HR.out.2.2.1.size _).grown hgrow (by have := HR.out.2.2.1.size; simp; omega) (fun k hk => (HR.out.2.1.lt k hk).1))
                  have HO3 : Hid (w3.ownsRow w1.heap.size 9 1 (.slice (some ⟨g3, 0, none⟩) (n + 1) c3) (n + 1) (strV (stepU acc x))) := Lib.hid (by rw [HST.out, HY.out, strV_snoc, HYE.out]; exact hown)
                  have HL3 : Hid ((stepU acc x).length = n + 1) := Lib.hid (by rw [HST.out, List.length_append, HR.out.1]; rfl)
                  clear hown hgrow
                  go_wp2_with fail
                  go_roundw
                  case rel => exact ⟨some ⟨g3, 0, none⟩, n + 1, c3, stepU acc x, k + 1, rfl, by go_num, by omega, by omega, Lib.hid ⟨HL3.out, HO3.out, HB3.out, HNX.out⟩⟩
                  case measure => simp [intOf]; omega
      · have hkE : k = (m + 1) := by omega
        have e : acc = unfL s.data.toList := by have h := HR.out.2.2.2; rw [List.take_of_length_le (by rw [HLN.out, hkE]; exact Nat.le_refl _), HUN.out] at h; exact h
        have HEQ := Lib.hid e
        clear e
        subst hkE
        go_wp2_with fail
        go_ret
        exact ⟨_, rfl, (show StrL _ w1.heap.size _ _ by rw [← HEQ.out]; unfold StrL; rw [HR.out.1]; exact HR.out.2.1).low HB1.out.size, HB1.out.trans (HR.out.2.2.1.mono HB1.out.size)⟩
end Go.Proofs.YtidgahnamdhflaaDoor
